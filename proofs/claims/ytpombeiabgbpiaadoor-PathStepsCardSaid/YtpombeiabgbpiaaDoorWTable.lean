/-
path.NewTable and (*Table).Look: a table answers of each name what the edges' last one with an inode says.
-/
import Derived.Test.YtpombeiabgbpiaaDoorWBase
import Derived.Maps.Own
import Derived.Maps.Views
import Derived.DeepKeys4
import Derived.Carry
import Derived.Deep.RegionHeld
import Derived.OrdersHeld
namespace Go.Proofs.YtpombeiabgbpiaaDoor
open Go.RowKit Go.Maps

/-- an edge: directory, name, inode, is it a directory -/
abbrev EdgeV := Int × ByteArray × Int × Bool
/-- what a list of edges says of a name -/
def lookT (l : List EdgeV) (d : Int) (s : ByteArray) : Int × Bool := l.foldl (fun a e => if 1 ≤ e.2.2.1 ∧ e.1 = d ∧ e.2.1 = s then (e.2.2.1, e.2.2.2) else a) (0, false)
theorem lookT_snoc (l : List EdgeV) (e : EdgeV) (d : Int) (s : ByteArray) : lookT (l ++ [e]) d s = if 1 ≤ e.2.2.1 ∧ e.1 = d ∧ e.2.1 = s then (e.2.2.1, e.2.2.2) else lookT l d s := by
  simp [lookT]

theorem keyed85 : Keyed Tryd.prog 85 := Keyed.of_law (deep_law_laid (by kernel_rfl) (m := 9) (by decide) (of_decide_eq_true (by kernel_rfl)) (by kernel_rfl) (by kernel_rfl))
def keyV (d : Int) (s : ByteArray) : Value := .agg #[.int .i64 d, .string s]
def keyL (d : Int) (s : ByteArray) : Lit := .string (keyBytes [.int .i64 d, .string (bys s)])
theorem key_of (d : Int) (s : ByteArray) (hd : (Lit.int .i64 d).wf = true) (hs : s.size ≤ maxLen) : keyOf Tryd.prog 85 (keyV d s) = some (keyL d s) := by
  have h1 : Tryd.prog.keyType 85 = true := by kernel_rfl
  have h2 : Tryd.prog.cellsOf 85 = 2 := by kernel_rfl
  have h3 : Tryd.prog.cellsOf 3 = 1 := by kernel_rfl
  have h4 : Tryd.prog.cellsOf 9 = 1 := by kernel_rfl
  have hp : 0 < Tryd.prog.types.size := of_decide_eq_true (by kernel_rfl)
  obtain ⟨m, hm⟩ : ∃ m, Tryd.prog.types.size = m + 1 := ⟨Tryd.prog.types.size - 1, by omega⟩
  clear hp
  unfold keyOf keyV keyL
  rw [Tryd.underlying85]
  simp only [h1, Value.formed, Tryd.underlying85, h2, Value.cells]
  rw [hm]
  simp [Program.keyLits, Tryd.underlying85, Tryd.underlying3, Tryd.underlying9, h2, h3, h4, hd, hs]
theorem key_inj {d d' : Int} {s s' : ByteArray} (hd : (Lit.int .i64 d).wf = true) (hs : s.size ≤ maxLen) (hd' : (Lit.int .i64 d').wf = true) (hs' : s'.size ≤ maxLen) (h : keyL d s = keyL d' s') : d = d' ∧ s = s' := by
  have := keyed85.inj (key_of d s hd hs) ((key_of d' s' hd' hs').trans (by rw [h]))
  unfold keyV at this
  injection this with this
  simpa using this

/-- how an element reads -/
def stopE (v : Value) : Option (DataW Unit × List MemPlace) := match v with
  | .agg cs => match cs.toList with
    | [.int .i64 i, .bool b] => some (.agg [.lit (.int .i64 i), .lit (.bool b)], [])
    | _ => none
  | _ => none
theorem stopE_mk (i : Int) (b : Bool) : stopE (.agg #[.int .i64 i, .bool b]) = some (.agg [.lit (.int .i64 i), .lit (.bool b)], []) := rfl
theorem stopE_inv {v : Value} {i : Int} {b : Bool} {ps : List MemPlace} (h : stopE v = some (.agg [.lit (.int .i64 i), .lit (.bool b)], ps)) : v = .agg #[.int .i64 i, .bool b] := by
  unfold stopE at h
  split at h
  · rename_i cs
    split at h
    · rename_i i' b' hc
      simp at h
      obtain ⟨⟨h1, h2⟩, _⟩ := h
      subst h1 h2
      rw [show cs = #[.int .i64 i', .bool b'] from by rw [← Array.toArray_toList (xs := cs), hc]]
    · cases h
  · cases h
def stopD (x : Int × Bool) : DataW Unit := .agg [.lit (.int .i64 x.1), .lit (.bool x.2)]
/-- a map that answers as a list of edges -/
def MapT (W : World) (b n : Nat) (l : List EdgeV) : Prop :=
  ∃ D : DataW Unit, W.ownsMap Tryd.prog 85 stopE b n D ∧ IsMap D ∧ ∀ d s, (Lit.int .i64 d).wf = true → s.size ≤ maxLen → D.atKey (keyL d s) (stopD (0, false)) = stopD (lookT l d s)
theorem MapT.kept {W W' : World} {b n : Nat} {l : List EdgeV} (h : MapT W b n l) (hb : W'.heap[b]? = W.heap[b]?) : MapT W' b n l := by
  obtain ⟨D, ⟨es, clock, h1, h2⟩, h3⟩ := h
  exact ⟨D, ⟨es, clock, hb.trans h1, h2⟩, h3⟩
theorem MapT.lt {W : World} {b n : Nat} {l : List EdgeV} (h : MapT W b n l) : b < W.heap.size := by
  obtain ⟨D, h, _⟩ := h
  exact h.lt
theorem MapT.new (w : World) : MapT (w.alloc (.map #[] 0)) w.heap.size 0 [] :=
  ⟨_, World.ownsMap_made w _ _ _, isMap_empty, fun _ _ _ _ => rfl⟩
theorem zero83 (w : World) : (zeroValue 83).run Tryd.prog w = .ok (.agg #[.int .i64 0, .bool false]) w := by kernel_rfl
theorem MapT.look {W : World} {b n : Nat} {l : List EdgeV} (h : MapT W b n l) (d : Int) (s : ByteArray) (hd : (Lit.int .i64 d).wf = true) (hs : s.size ≤ maxLen) :
    (Instr.lookup 79 (.map (some b)) (.agg #[.int .i64 d, .string s]) false).run Tryd.prog W = .ok (.agg #[.int .i64 (lookT l d s).1, .bool (lookT l d s).2]) W := by
  obtain ⟨D, h1, h2, h3⟩ := h
  obtain ⟨v, ps, hrun, hv⟩ := h1.lookup keyed85 Tryd.underlying79 (zero83 W) (stopE_mk 0 false) (key_of d s hd hs)
  have := h3 d s hd hs
  unfold stopD at this
  rw [this] at hv
  have e := stopE_inv hv
  rw [← e]
  exact hrun
theorem MapT.put {W : World} {b n : Nat} {l : List EdgeV} (h : MapT W b n l) (hn : n < maxLen) (e : EdgeV) (hd : (Lit.int .i64 e.1).wf = true) (hs : e.2.1.size ≤ maxLen) (hi : 1 ≤ e.2.2.1) :
    ∃ W', (Instr.mapUpdate 79 (.map (some b)) (.agg #[.int .i64 e.1, .string e.2.1]) (.agg #[.int .i64 e.2.2.1, .bool e.2.2.2])).run Tryd.prog W = .ok () W' ∧ MapT W' b (n + 1) (l ++ [e]) ∧ W.grownBy W' (some b) := by
  obtain ⟨D, h1, h2, h3⟩ := h
  obtain ⟨W', hrun, ho, hg⟩ := h1.update keyed85 Tryd.underlying79 hn (key_of e.1 e.2.1 hd hs) (stopE_mk e.2.2.1 e.2.2.2)
  refine ⟨W', hrun, ⟨_, ho, h2.put _ _, fun d s hd' hs' => ?_⟩, hg⟩
  rw [lookT_snoc]
  by_cases hk : e.1 = d ∧ e.2.1 = s
  · obtain ⟨rfl, rfl⟩ := hk
    rw [if_pos ⟨hi, rfl, rfl⟩]
    exact atKey_put_same h2 (keyed85.key (key_of _ _ hd hs)) _ _
  · rw [if_neg (fun h => hk ⟨h.2.1, h.2.2⟩), atKey_put_other (fun h => hk (by have := key_inj hd' hs' hd hs h; exact ⟨this.1.symm, this.2.symm⟩))]
    exact h3 d s hd' hs'
theorem MapT.skip {W : World} {b n : Nat} {l : List EdgeV} (h : MapT W b n l) (e : EdgeV) (hi : ¬ 1 ≤ e.2.2.1) : MapT W b n (l ++ [e]) := by
  obtain ⟨D, h1, h2, h3⟩ := h
  exact ⟨D, h1, h2, fun d s hd hs => by rw [lookT_snoc, if_neg (fun h => hi h.1)]; exact h3 d s hd hs⟩
theorem MapT.mono {W : World} {b n m : Nat} {l : List EdgeV} (h : MapT W b n l) (hm : n ≤ m) : MapT W b m l := by
  obtain ⟨D, h1, h2, h3⟩ := h
  exact ⟨D, h1.mono hm, h2, h3⟩

/-- a table at block t -/
def TabT (W : World) (t : Nat) (l : List EdgeV) : Prop := ∃ mb n, W.heap[t]? = some (.cells #[.map (some mb)] 81 (0, 0)) ∧ MapT W mb n l
theorem TabT.below {W W' : World} {t : Nat} {l : List EdgeV} (h : TabT W t l) (hb : Below W.heap.size W W') : TabT W' t l := by
  obtain ⟨mb, n, h1, h2⟩ := h
  exact ⟨mb, n, (hb.block t (heap_lt h1)).trans h1, h2.kept (hb.block mb h2.lt)⟩

set_option maxHeartbeats 1000000 in
/-- Look -/
theorem look_any (w : World) (t : Nat) (l : List EdgeV) (h : TabT w t l) (d : Int) (s : ByteArray) (hd : (Lit.int .i64 d).wf = true) (hs : s.size ≤ maxLen) :
    Calls Tryd.prog 25 #[.pointer (some ⟨t, 0, none⟩), .int .i64 d, .string s] w fun e w' => e = .returned (.tuple #[.int .i64 (lookT l d s).1, .bool (lookT l d s).2]) ∧ Below w.heap.size w w' := by
  obtain ⟨mb, n, h1, h2⟩ := h
  have c0 : w.cell? ⟨t, 0, none⟩ = some (.map (some mb)) := by rw [cell_of_row _ _ _ _ _ _ h1]; rfl
  have hl := h2.look d s hd hs
  generalize lookT l d s = x at *
  obtain ⟨x1, x2⟩ := x
  simp only at hl ⊢
  clear h1 h2 hd hs
  go_enter Tryd.func25, Tryd.ntmps25
  go_wp2_with fail
  go_region
  go_wp2_with fail
  go_returns
  exact ⟨rfl, ((Below.refl _ _).alloc (Nat.le_refl _) _).drew⟩

def EdgeV.cells (e : EdgeV) : List Value := [.int .i64 e.1, .string e.2.1, .int .i64 e.2.2.1, .bool e.2.2.2]
/-- an edge whose numbers and name are within bounds -/
def EdgeV.Ok (e : EdgeV) : Prop := (Lit.int .i64 e.1).wf = true ∧ e.2.1.size ≤ maxLen ∧ (Lit.int .i64 e.2.2.1).wf = true
/-- a slice of edges that can be read -/
def RdE (W : World) (v : Value) (l : List EdgeV) : Prop :=
  ∃ A c, v = .slice A l.length c ∧ l.length ≤ c ∧ c ≤ maxLen ∧ (∀ e ∈ l, e.Ok) ∧ (0 < l.length → ∃ b off, A = some ⟨b, off, none⟩ ∧ b < W.heap.size ∧ ∀ i e, l[i]? = some e → W.rangeAt b (off + i * 4) e.cells)
theorem range_chg {D : Nat → Prop} {w w' : World} {b o : Nat} {l : List Value} (hc : Chg D w w') (h : w.rangeAt b o l) (hn : ¬ D b) : w'.rangeAt b o l := fun j v hv => cell_chg hc (h j v hv) hn
theorem RdE.chg {D : Nat → Prop} {w w' : World} {v : Value} {l : List EdgeV} (h : RdE w v l) (hc : Chg D w w') (hn : ∀ b off n c, v = .slice (some ⟨b, off, none⟩) n c → ¬ D b) : RdE w' v l := by
  obtain ⟨A, c, rfl, h1, h2, h4, h3⟩ := h
  refine ⟨A, c, rfl, h1, h2, h4, fun h0 => ?_⟩
  obtain ⟨b, off, rfl, hb, hh⟩ := h3 h0
  exact ⟨b, off, rfl, Nat.lt_of_lt_of_le hb hc.size, fun i s hs => range_chg hc (hh i s hs) (hn b off _ c rfl)⟩
theorem RdE.below {w w' : World} {v : Value} {l : List EdgeV} (h : RdE w v l) (hb : Below w.heap.size w w') : RdE w' v l := h.chg (Chg.of_below (fun _ => False) hb) (fun _ _ _ _ _ h => h)

theorem takeD {P : Program} {md : Region.Mode} {ops : Array Oper} {Q : Exit → Act → World → Prop} {S : World → Prop} {i : Nat} {oi : Oper} (d : Tmp) {v : Value} {fuel : Nat} {listed : Array Bool} {a : Act} {w : World} (hi : ops[i]? = some oi)
    (hd : oi.dst = some d) (hs : Region.noSelect ops = true) (hf : Region.free md ops listed i = true) (hr : (Region.ready md ops listed).contains i = true)
    (hQ : ∀ c a w, Q (.panic c) (a.put oi.dst v) w → Q (.panic c) a w) (hy : YieldsIf P ops S oi v a) (hS : S w)
    (h : wpAnyH P md ops Q S fuel (listed.setIfInBounds i true) (a.put (some d) v) w) : wpAnyH P md ops Q S (fuel + 1) listed a w :=
  wpAnyH_take hi hs hf hr hQ hy hS (by rw [hd]; exact h)

/-- behind k rounds -/
structure TbSt (w : World) (l : List EdgeV) (k : Nat) (W : World) : Prop where
  cell : W.heap[w.heap.size + 1]? = some (.cells #[.map (some w.heap.size)] 81 (0, 0))
  map : MapT W w.heap.size k (l.take k)
  bel : Below w.heap.size w W
theorem TbSt.below {w W W' : World} {l : List EdgeV} {k : Nat} (h : TbSt w l k W) (hb : Below W.heap.size W W') : TbSt w l k W' :=
  ⟨(hb.block _ (heap_lt h.cell)).trans h.cell, h.map.kept (hb.block _ h.map.lt), below_lift h.bel hb⟩
theorem TbSt.skip {w W : World} {l : List EdgeV} {k : Nat} {e : EdgeV} (h : TbSt w l k W) (he : l[k]? = some e) (hi : ¬ 1 ≤ e.2.2.1) : TbSt w l (k + 1) W := by
  refine ⟨h.cell, ?_, h.bel⟩
  rw [List.take_add_one, he]
  exact (h.map.skip e hi).mono (by omega)
theorem TbSt.put {w W : World} {l : List EdgeV} {k : Nat} {e : EdgeV} (h : TbSt w l k W) (he : l[k]? = some e) (hk : k < maxLen) (hi : 1 ≤ e.2.2.1) (ho : e.Ok) :
    ∃ W', (Instr.mapUpdate 79 (.map (some w.heap.size)) (.agg #[.int .i64 e.1, .string e.2.1]) (.agg #[.int .i64 e.2.2.1, .bool e.2.2.2])).run Tryd.prog W = .ok () W' ∧ TbSt w l (k + 1) W' ∧ ∀ b, b ≠ w.heap.size → b < W.heap.size → W'.heap[b]? = W.heap[b]? := by
  obtain ⟨W', h1, h2, h3⟩ := h.map.put hk e ho.1 ho.2.1 hi
  refine ⟨W', h1, ⟨(h3.block _ (heap_lt h.cell) (by simp)).trans h.cell, ?_, ?_⟩, ?_⟩
  · rw [List.take_add_one, he]; exact h2
  · have := h.bel.size
    exact ⟨h3.os.trans h.bel.os, h3.tape.trans h.bel.tape, h3.output.trans h.bel.output, Nat.le_trans this h3.size, fun x hx => (h3.block x (by omega) (by simp; omega)).trans (h.bel.block x hx)⟩
  · exact fun b hb hlt => h3.block b hlt (by simpa using hb)
theorem maxLen_eq : maxLen = 9223372036854775807 := by simp [maxLen]
/-- what the update's operations read -/
structure NtS (w : World) (b : Nat) (e1 : Int) (e2 : ByteArray) (e3 : Int) (e4 : Bool) (W : World) : Prop where
  t : W.cell? ⟨w.heap.size + 1, 0, none⟩ = some (.map (some w.heap.size))
  c0 : W.cell? ⟨b, 0, none⟩ = some (.int .i64 e1)
  c1 : W.cell? ⟨b, 1, none⟩ = some (.string e2)
  c2 : W.cell? ⟨b, 2, none⟩ = some (.int .i64 e3)
  c3 : W.cell? ⟨b, 3, none⟩ = some (.bool e4)
theorem NtS.mk' {w wr : World} {l : List EdgeV} {k : Nat} (h : TbSt w l k wr) (e1 : Int) (e2 : ByteArray) (e3 : Int) (e4 : Bool) :
    NtS w wr.heap.size e1 e2 e3 e4 (wr.alloc (.cells #[.int .i64 e1, .string e2, .int .i64 e3, .bool e4] 44)).drew ∧ TbSt w l k (wr.alloc (.cells #[.int .i64 e1, .string e2, .int .i64 e3, .bool e4] 44)).drew ∧ wr.heap.size ≠ w.heap.size ∧ wr.heap.size < (wr.alloc (.cells #[.int .i64 e1, .string e2, .int .i64 e3, .bool e4] 44)).drew.heap.size := by
  have h' := h.below (((Below.refl wr.heap.size wr).alloc (Nat.le_refl _) (.cells #[.int .i64 e1, .string e2, .int .i64 e3, .bool e4] 44)).drew)
  have hb : (wr.alloc (.cells #[.int .i64 e1, .string e2, .int .i64 e3, .bool e4] 44)).drew.heap[wr.heap.size]? = some (.cells #[.int .i64 e1, .string e2, .int .i64 e3, .bool e4] 44 (0, 0)) := heap_alloc_new wr _
  have := heap_lt h.cell
  exact ⟨⟨by rw [cell_of_row _ _ _ _ _ _ h'.cell]; rfl, by rw [cell_of_row _ _ _ _ _ _ hb]; rfl, by rw [cell_of_row _ _ _ _ _ _ hb]; rfl, by rw [cell_of_row _ _ _ _ _ _ hb]; rfl, by rw [cell_of_row _ _ _ _ _ _ hb]; rfl⟩, h', by omega, heap_lt hb⟩
theorem NtS.kept {w W W2 : World} {b : Nat} {e1 : Int} {e2 : ByteArray} {e3 : Int} {e4 : Bool} (h : NtS w b e1 e2 e3 e4 W) (hb : b ≠ w.heap.size) (hlt : b < W.heap.size) (hk : ∀ b, b ≠ w.heap.size → b < W.heap.size → W2.heap[b]? = W.heap[b]?) : NtS w b e1 e2 e3 e4 W2 := by
  have e := hk b hb hlt
  exact ⟨(World.cell?_of_block (hk _ (Nat.succ_ne_self _) (World.block_lt_of_cell? W _ h.t))).trans h.t, (World.cell?_of_block e).trans h.c0, (World.cell?_of_block e).trans h.c1, (World.cell?_of_block e).trans h.c2, (World.cell?_of_block e).trans h.c3⟩
set_option maxRecDepth 100000 in
set_option maxHeartbeats 2000000 in
/-- NewTable -/
theorem newTable_any (w : World) (v : Value) (l : List EdgeV) (h : RdE w v l) :
    Calls Tryd.prog 22 #[v] w fun e w' => ∃ t, e = .returned (.pointer (some ⟨t, 0, none⟩)) ∧ TabT w' t l ∧ w.heap.size ≤ t ∧ Below w.heap.size w w' := by
  obtain ⟨A, c, rfl, h1, h2, h4, h3⟩ := h
  have hmm := @run_makeMap Tryd.prog
  have HR := Lib.hid h3
  have HO := Lib.hid h4
  have hcm : c ≤ 9223372036854775807 := maxLen_eq ▸ h2
  clear h3 h4 h2
  go_enter Tryd.func22, Tryd.ntmps22
  go_wp2_with fail
  have HS0 : Hid (TbSt w l 0 ((w.alloc (.map #[] 0)).alloc (.cells #[.map (some w.heap.size)] 81 (0, 0)))) := by
    refine Lib.hid ⟨?_, (MapT.new w).kept ?_, ((Below.refl _ _).alloc (Nat.le_refl _) _).alloc (by simp) _⟩
    · simpa using heap_alloc_new (w.alloc (.map #[] 0)) (.cells #[.map (some w.heap.size)] 81 (0, 0))
    · exact Below.heap_alloc _ _ _ (by simp)
  go_loopw [11] (fun v11 wr => ∃ k : Nat, k ≤ l.length ∧ v11 = .int .i64 k ∧ Hid (TbSt w l k wr)) (fun v11 _ => l.length - (intOf v11).toNat)
  case atStart => exact ⟨0, by omega, rfl, HS0⟩
  case round =>
    clear HS0
    obtain ⟨k, hk, rfl, HS⟩ := hrel
    by_cases hlt8 : k < l.length
    · obtain ⟨b, off, rfl, hb, hh⟩ := HR.out (by omega)
      obtain ⟨⟨e1, e2, e3, e4⟩, he⟩ : ∃ e, l[k]? = some e := ⟨_, List.getElem?_eq_getElem hlt8⟩
      have hr := range_chg (Chg.of_below (fun _ => False) HS.out.bel) (hh k _ he) (fun h => h)
      have ho : EdgeV.Ok (e1, e2, e3, e4) := HO.out _ (List.mem_of_getElem? he)
      have c0 : wr.cell? ⟨b, off + k * 4, none⟩ = some (.int .i64 e1) := hr 0 _ rfl
      have c1 : wr.cell? ⟨b, off + k * 4 + 1, none⟩ = some (.string e2) := hr 1 _ rfl
      have c2 : wr.cell? ⟨b, off + k * 4 + 2, none⟩ = some (.int .i64 e3) := hr 2 _ rfl
      have c3 : wr.cell? ⟨b, off + k * 4 + 3, none⟩ = some (.bool e4) := hr 3 _ rfl
      clear hr
      have hbw : b < wr.heap.size := by have := HS.out.bel.size; omega
      clear hh
      by_cases hi : 1 ≤ e3
      · have Hp := Lib.hid (fun W (hW : TbSt w l k W) => hW.put he (by rw [maxLen_eq]; omega) hi ho)
        obtain ⟨hd, hdt, hne, hlt⟩ := NtS.mk' HS.out e1 e2 e3 e4
        have HD := Lib.hid hdt
        clear hdt
        clear he ho HS
        go_wp2_with fail
        refine wp_region_held_drew (S := NtS w wr.heap.size e1 e2 e3 e4) (by kernel_rfl) hd (fun hS => ?_)
        refine takeD (i := 0) (v := .pointer (some ⟨w.heap.size + 1, 0, none⟩)) 18 rfl rfl (by kernel_rfl) (by kernel_rfl) (by kernel_rfl) (fun _ _ _ h => h) (Or.inl ⟨by rfl, fun W hW => by have k0 := hW.t; have k1 := hW.c0; have k2 := hW.c1; have k3 := hW.c2; have k4 := hW.c3; clear hW; go_simp⟩) hS ?_
        simp only [Act.put, List.setIfInBounds_toArray, List.set_cons_zero, List.set_cons_succ]
        refine takeD (i := 1) (v := .pointer (some ⟨w.heap.size + 1, 0, none⟩)) 19 rfl rfl (by kernel_rfl) (by kernel_rfl) (by kernel_rfl) (fun _ _ _ h => h) (Or.inl ⟨by rfl, fun W hW => by have k0 := hW.t; have k1 := hW.c0; have k2 := hW.c1; have k3 := hW.c2; have k4 := hW.c3; clear hW; go_simp⟩) hS ?_
        simp only [Act.put, List.setIfInBounds_toArray, List.set_cons_zero, List.set_cons_succ]
        refine takeD (i := 2) (v := .pointer (some ⟨w.heap.size + 1, 0, none⟩)) 20 rfl rfl (by kernel_rfl) (by kernel_rfl) (by kernel_rfl) (fun _ _ _ h => h) (Or.inl ⟨by rfl, fun W hW => by have k0 := hW.t; have k1 := hW.c0; have k2 := hW.c1; have k3 := hW.c2; have k4 := hW.c3; clear hW; go_simp⟩) hS ?_
        simp only [Act.put, List.setIfInBounds_toArray, List.set_cons_zero, List.set_cons_succ]
        refine takeD (i := 3) (v := .map (some w.heap.size)) 21 rfl rfl (by kernel_rfl) (by kernel_rfl) (by kernel_rfl) (fun _ _ _ h => h) (Or.inl ⟨by rfl, fun W hW => by have k0 := hW.t; have k1 := hW.c0; have k2 := hW.c1; have k3 := hW.c2; have k4 := hW.c3; clear hW; go_simp⟩) hS ?_
        simp only [Act.put, List.setIfInBounds_toArray, List.set_cons_zero, List.set_cons_succ]
        refine takeD (i := 4) (v := .pointer (some ⟨wr.heap.size, 0, none⟩)) 22 rfl rfl (by kernel_rfl) (by kernel_rfl) (by kernel_rfl) (fun _ _ _ h => h) (Or.inl ⟨by rfl, fun W hW => by have k0 := hW.t; have k1 := hW.c0; have k2 := hW.c1; have k3 := hW.c2; have k4 := hW.c3; clear hW; go_simp⟩) hS ?_
        simp only [Act.put, List.setIfInBounds_toArray, List.set_cons_zero, List.set_cons_succ]
        refine takeD (i := 5) (v := .int .i64 e1) 23 rfl rfl (by kernel_rfl) (by kernel_rfl) (by kernel_rfl) (fun _ _ _ h => h) (Or.inl ⟨by rfl, fun W hW => by have k0 := hW.t; have k1 := hW.c0; have k2 := hW.c1; have k3 := hW.c2; have k4 := hW.c3; clear hW; go_simp⟩) hS ?_
        simp only [Act.put, List.setIfInBounds_toArray, List.set_cons_zero, List.set_cons_succ]
        refine takeD (i := 6) (v := .pointer (some ⟨wr.heap.size, 1, none⟩)) 24 rfl rfl (by kernel_rfl) (by kernel_rfl) (by kernel_rfl) (fun _ _ _ h => h) (Or.inl ⟨by rfl, fun W hW => by have k0 := hW.t; have k1 := hW.c0; have k2 := hW.c1; have k3 := hW.c2; have k4 := hW.c3; clear hW; go_simp⟩) hS ?_
        simp only [Act.put, List.setIfInBounds_toArray, List.set_cons_zero, List.set_cons_succ]
        refine takeD (i := 7) (v := .string e2) 25 rfl rfl (by kernel_rfl) (by kernel_rfl) (by kernel_rfl) (fun _ _ _ h => h) (Or.inl ⟨by rfl, fun W hW => by have k0 := hW.t; have k1 := hW.c0; have k2 := hW.c1; have k3 := hW.c2; have k4 := hW.c3; clear hW; go_simp⟩) hS ?_
        simp only [Act.put, List.setIfInBounds_toArray, List.set_cons_zero, List.set_cons_succ]
        refine takeD (i := 8) (v := .agg #[.int .i64 e1, .string e2]) 26 rfl rfl (by kernel_rfl) (by kernel_rfl) (by kernel_rfl) (fun _ _ _ h => h) (Or.inl ⟨by rfl, fun W hW => by have k0 := hW.t; have k1 := hW.c0; have k2 := hW.c1; have k3 := hW.c2; have k4 := hW.c3; clear hW; go_simp⟩) hS ?_
        simp only [Act.put, List.setIfInBounds_toArray, List.set_cons_zero, List.set_cons_succ]
        refine takeD (i := 9) (v := .pointer (some ⟨wr.heap.size, 2, none⟩)) 27 rfl rfl (by kernel_rfl) (by kernel_rfl) (by kernel_rfl) (fun _ _ _ h => h) (Or.inl ⟨by rfl, fun W hW => by have k0 := hW.t; have k1 := hW.c0; have k2 := hW.c1; have k3 := hW.c2; have k4 := hW.c3; clear hW; go_simp⟩) hS ?_
        simp only [Act.put, List.setIfInBounds_toArray, List.set_cons_zero, List.set_cons_succ]
        refine takeD (i := 10) (v := .int .i64 e3) 28 rfl rfl (by kernel_rfl) (by kernel_rfl) (by kernel_rfl) (fun _ _ _ h => h) (Or.inl ⟨by rfl, fun W hW => by have k0 := hW.t; have k1 := hW.c0; have k2 := hW.c1; have k3 := hW.c2; have k4 := hW.c3; clear hW; go_simp⟩) hS ?_
        simp only [Act.put, List.setIfInBounds_toArray, List.set_cons_zero, List.set_cons_succ]
        refine takeD (i := 11) (v := .pointer (some ⟨wr.heap.size, 3, none⟩)) 29 rfl rfl (by kernel_rfl) (by kernel_rfl) (by kernel_rfl) (fun _ _ _ h => h) (Or.inl ⟨by rfl, fun W hW => by have k0 := hW.t; have k1 := hW.c0; have k2 := hW.c1; have k3 := hW.c2; have k4 := hW.c3; clear hW; go_simp⟩) hS ?_
        simp only [Act.put, List.setIfInBounds_toArray, List.set_cons_zero, List.set_cons_succ]
        refine takeD (i := 12) (v := .bool e4) 30 rfl rfl (by kernel_rfl) (by kernel_rfl) (by kernel_rfl) (fun _ _ _ h => h) (Or.inl ⟨by rfl, fun W hW => by have k0 := hW.t; have k1 := hW.c0; have k2 := hW.c1; have k3 := hW.c2; have k4 := hW.c3; clear hW; go_simp⟩) hS ?_
        simp only [Act.put, List.setIfInBounds_toArray, List.set_cons_zero, List.set_cons_succ]
        refine takeD (i := 13) (v := .agg #[.int .i64 e3, .bool e4]) 31 rfl rfl (by kernel_rfl) (by kernel_rfl) (by kernel_rfl) (fun _ _ _ h => h) (Or.inl ⟨by rfl, fun W hW => by have k0 := hW.t; have k1 := hW.c0; have k2 := hW.c1; have k3 := hW.c2; have k4 := hW.c3; clear hW; go_simp⟩) hS ?_
        simp only [Act.put, List.setIfInBounds_toArray, List.set_cons_zero, List.set_cons_succ]
        refine wpAnyH_ready (rs := [14]) (by kernel_rfl) (by simp) (AllReadyH.cons rfl (fun K hK => ?_) AllReadyH.nil)
        obtain ⟨W2, hrun, hst, hkp⟩ := Hp.out _ HD.out
        have hS2 := hS.kept hne hlt hkp
        have HT := Lib.hid hst
        clear hst hkp
        go_simp
        refine hK.out _ _ hS2 (fun h2 => ?_)
        clear hK K
        refine wpAnyH_done (by kernel_rfl) ?_ _
        go_wp2_with fail
        go_roundw
        case rel => exact ⟨k + 1, by omega, by go_num, HT⟩
        case measure => simp [intOf]; omega
      · have HS1 := Lib.hid (fun o => (HS.out.below ((Below.refl _ wr).alloc (Nat.le_refl _) o)).skip he hi)
        clear he ho HS
        go_wp2_with fail
        go_roundw
        case rel => exact ⟨k + 1, by omega, by go_num, Lib.hid (HS1.out _)⟩
        case measure => simp [intOf]; omega
    · obtain rfl : k = l.length := by omega
      have HT := HS.out
      clear HS
      go_wp2_with fail
      go_ret
      exact ⟨w.heap.size + 1, rfl, ⟨w.heap.size, _, HT.cell, by have := HT.map; rwa [List.take_length] at this⟩, by omega, HT.bel⟩

end Go.Proofs.YtpombeiabgbpiaaDoor
