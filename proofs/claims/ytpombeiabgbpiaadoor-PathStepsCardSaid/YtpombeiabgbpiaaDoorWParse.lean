/-
path.Parse: what it answers of any text.
-/
import Derived.Test.YtpombeiabgbpiaaDoorWSplit
import Derived.RangeFuncBox
import Derived.Maps.AppendAt
import Derived.Maps.OwnIn
namespace Go.Proofs.YtpombeiabgbpiaaDoor
open Go.RowKit Go.Shelf
attribute [local go_sem] Oper.semAt_some

theorem info9 : (Tryd.prog.info? 9).map (fun i => (i.zero, i.size, i.bytes)) = some (some (.string ByteArray.empty), 1, 16) := by kernel_rfl

/-- what of the fragments is kept -/
def kept (l : List ByteArray) : List ByteArray := l.filter fun x => x.size != 0
theorem kept_snoc (l : List ByteArray) (x : ByteArray) : kept (l ++ [x]) = kept l ++ if x.size = 0 then [] else [x] := by
  unfold kept
  rw [List.filter_append]
  by_cases h : x.size = 0 <;> simp [h]
/-- the parts of a text -/
def partsOf (t : ByteArray) : List ByteArray := kept (frs t.size t)
def endsSlash (t : ByteArray) : Bool := (bys t).getLast? == some 47
/-- the error of a text; 0: none -/
def errOf (t : ByteArray) : Int :=
  if 200 < t.size then 140 else if (bys t).head? ≠ some 47 then 141 else if 0 ∈ bys t then 141 else if ∃ x ∈ frs t.size t, 28 < x.size then 142 else 0

/-- between two rounds -/
structure PaI (w : World) (B : Nat) (pre : List ByteArray) (W : World) : Prop where
  b2 : W.heap[w.heap.size]? = some (.cells #[.slice none 0 0, .bool false] 25 (0, 0))
  b3 : W.heap[w.heap.size + 1]? = some (.cells #[.int .i64 0] 26 (0, 0))
  row : ∃ v, W.heap[w.heap.size + 1 + 1]? = some (.cells #[v, .bool false] 25 (0, 0)) ∧ W.ownsRow B 9 1 v (kept pre).length ((kept pre).map vS)
  short : ∀ x ∈ pre, x.size ≤ 28
  bel : Below w.heap.size w W
/-- behind a part that is too long -/
structure PaX (w : World) (pre : List ByteArray) (W : World) : Prop where
  b2 : W.heap[w.heap.size]? = some (.cells #[.slice none 0 0, .bool false] 25 (0, 0))
  b3 : W.heap[w.heap.size + 1]? = some (.cells #[.int .i64 142] 26 (0, 0))
  long : ∃ x ∈ pre, 28 < x.size
  bel : Below w.heap.size w W

theorem PaI.sim {w : World} {B q B0 : Nat} {pre : List ByteArray} {X Y : World} (h : PaI w B pre X) (hs : Sim q B0 X Y) (hB : w.heap.size ≤ B0) (hq : w.heap.size + 1 + 1 < q ∧ q < B) : PaI w B pre Y := by
  obtain ⟨v, hv, hr⟩ := h.row
  refine ⟨hs.cells _ _ _ _ (by omega) h.b2, hs.cells _ _ _ _ (by omega) h.b3, ⟨v, hs.cells _ _ _ _ (by omega) hv, ?_⟩, h.short, ⟨hs.os.trans h.bel.os, hs.tape.trans h.bel.tape, hs.output.trans h.bel.output, Nat.le_trans h.bel.size hs.size, fun k hk => (hs.low k (by omega) (by omega)).trans (h.bel.block k hk)⟩⟩
  refine ⟨hr.1, hr.2.imp id ?_⟩
  rintro ⟨g, cap, cur, rfl, hb, hg, r⟩
  exact ⟨g, cap, cur, rfl, hb, hs.cells _ _ _ _ (by omega) hg, r⟩
theorem PaX.sim {w : World} {q B0 : Nat} {pre : List ByteArray} {X Y : World} (h : PaX w pre X) (hs : Sim q B0 X Y) (hB : w.heap.size ≤ B0) (hq : w.heap.size + 1 < q) : PaX w pre Y :=
  ⟨hs.cells _ _ _ _ (by omega) h.b2, hs.cells _ _ _ _ (by omega) h.b3, h.long, ⟨hs.os.trans h.bel.os, hs.tape.trans h.bel.tape, hs.output.trans h.bel.output, Nat.le_trans h.bel.size hs.size, fun k hk => (hs.low k (by omega) (by omega)).trans (h.bel.block k hk)⟩⟩
theorem frs_len : ∀ (n : Nat) (s : ByteArray), (frs n s).length ≤ n + 1
  | 0, s => by simp [frs]
  | n + 1, s => by
    unfold frs
    split
    · simp
    · simp only [List.length_cons]
      have := frs_len n (s.extract ((Lib.indexByte (bys s) 47).toNat + 1) s.size)
      omega
theorem Held.of_chg {D K : Nat → Prop} {W W' : World} {B0 : Nat} (h : Chg D W W') (h1 : ∀ b, D b → B0 ≤ b → ∃ cs t fr, W.heap[b]? = some (.cells cs t fr)) (h2 : ∀ b, K b → ¬ D b) (h3 : ∀ b, K b → b < W.heap.size) : Held B0 K W W' :=
  ⟨h.size, fun b o hb ho hc => (h.block b (heap_lt ho) (fun hd => by obtain ⟨cs, t, fr, e⟩ := h1 b hd hb; rw [ho] at e; cases e; cases hc)).trans ho,
    fun b hb => h.block b (h3 b hb) (h2 b hb)⟩
theorem isSlash_any (c : Int) (w : World) : Calls Tryd.prog 38 #[.int .u8 c] w fun e w' => e = .returned (.bool (c == 47)) ∧ w = w' := by
  go_enter Tryd.func38, Tryd.ntmps38
  go_wp2_with fail
  go_ret
  exact ⟨rfl, rfl⟩
theorem parts_pos (t : ByteArray) (h : 0 < (partsOf t).length) : 1 ≤ t.size := by
  rcases Nat.eq_zero_or_pos t.size with e | e
  · exfalso
    unfold partsOf at h
    rw [e] at h
    simp [frs, kept, e] at h
  · exact e
theorem ends_at (t : ByteArray) (h : 1 ≤ t.size) : endsSlash t = (((t[t.size - 1]'(by omega)).toNat : Int) == 47) := by
  have e : (bys t).getLast? = some (t[t.size - 1]'(by omega)) := by
    rw [List.getLast?_eq_getElem?, bys_length]
    have hh : t.size - 1 < t.data.size := by show t.size - 1 < t.size; omega
    show t.data.toList[t.size - 1]? = some (t.data[t.size - 1]'hh)
    rw [Array.getElem?_toList]
    exact Array.getElem?_eq_getElem hh
  unfold endsSlash
  rw [e]
  generalize t[t.size - 1]'(by omega) = x
  by_cases hx : x = 47
  · subst hx; rfl
  · have h1 : (some x == some (47 : UInt8)) = false := by simp [hx]
    have h2 : ((x.toNat : Int) == 47) = false := by
      rw [beq_eq_false_iff_ne]
      intro e
      exact hx (UInt8.toNat_inj.1 (by show x.toNat = 47; omega))
    rw [h1, h2]
theorem parse_res {tmps : Array Value} {X : World} {b2 b3 : Nat} {v : Value} {b : Bool} {e : Int} (h2 : tmps[2]?.getD undef = .pointer (some ⟨b2, 0, none⟩)) (h3 : tmps[3]?.getD undef = .pointer (some ⟨b3, 0, none⟩))
    (k2 : X.heap[b2]? = some (.cells #[v, .bool b] 25 (0, 0))) (k3 : X.heap[b3]? = some (.cells #[.int .i64 e] 26 (0, 0))) : (results Tryd.f17 tmps).run Tryd.prog X = .ok (.tuple #[.agg #[v, .bool b], .int .i64 e]) X := by
  have c0 : X.cell? ⟨b2, 0, none⟩ = some v := by rw [cell_of_row _ _ _ _ _ _ k2]; rfl
  have c1 : X.cell? ⟨b2, 1, none⟩ = some (.bool b) := by rw [cell_of_row _ _ _ _ _ _ k2]; rfl
  have c2 : X.cell? ⟨b3, 0, none⟩ = some (.int .i64 e) := by rw [cell_of_row _ _ _ _ _ _ k3]; rfl
  simp [results, Tryd.results17, go_sem, h2, h3, c0, c1, c2]
theorem parse_end {R : Ending → World → Prop} {tmps : Array Value} {W : World} {D b2 b3 : Nat} {v : Value} {b : Bool} {e : Int} (hD : W.heap[D]? = some (.deferred (some []))) (h2 : tmps[2]?.getD undef = .pointer (some ⟨b2, 0, none⟩)) (h3 : tmps[3]?.getD undef = .pointer (some ⟨b3, 0, none⟩))
    (k2 : W.heap[b2]? = some (.cells #[v, .bool b] 25 (0, 0))) (k3 : W.heap[b3]? = some (.cells #[.int .i64 e] 26 (0, 0))) (hR : R (.returned (.tuple #[.agg #[v, .bool b], .int .i64 e])) (W.putObj D (.deferred none))) :
    bodyPostM Fence.wide 6 Tryd.prog Tryd.f17 R .ret { tmps := tmps, defers := [{ target := .collected D, args := #[] }] } W := by
  refine ⟨by simp, .inl ⟨_, _, rfl, run_takeDeferred hD, ?_⟩⟩
  exact ⟨_, parse_res h2 h3 ((World.putObj_heap_other (fun e => by subst e; rw [hD] at k2; cases k2)).trans k2) ((World.putObj_heap_other (fun e => by subst e; rw [hD] at k3; cases k3)).trans k3), hR⟩
theorem below_putObj {n : Nat} {w W : World} (h : Below n w W) {D : Nat} (hD : n ≤ D) (o : Obj) : Below n w (W.putObj D o) :=
  ⟨h.os, h.tape, h.output, by simpa using h.size, fun k hk => (World.putObj_heap_other (by omega)).trans (h.block k hk)⟩
theorem nul_at (t : ByteArray) : (Lib.indexByte (bys t) 0 = -1 ∧ 0 ∉ bys t) ∨ (0 ≤ Lib.indexByte (bys t) 0 ∧ 0 ∈ bys t) := by
  have h := Lib.indexByte_ge (bys t) 0
  by_cases e : Lib.indexByte (bys t) 0 = -1
  · refine .inl ⟨e, fun hm => ?_⟩
    obtain ⟨k, hk⟩ := List.mem_iff_getElem?.1 hm
    exact Lib.indexByte_none e k hk
  · obtain ⟨i, hi⟩ : ∃ i : Nat, Lib.indexByte (bys t) 0 = i := ⟨(Lib.indexByte (bys t) 0).toNat, by omega⟩
    exact .inr ⟨by omega, List.mem_of_getElem? (Lib.indexByte_some hi).1⟩

/-- what Parse leaves: no error: the parts in new memory, and Slash; else nothing and the error -/
def PaPost (w : World) (t : ByteArray) (e : Ending) (w' : World) : Prop :=
  Below w.heap.size w w' ∧ (if errOf t = 0 then ∃ v, e = .returned (.tuple #[.agg #[v, .bool (!(partsOf t).isEmpty && endsSlash t)], .int .i64 0]) ∧ w'.ownsRow w.heap.size 9 1 v (partsOf t).length ((partsOf t).map vS)
    else e = .returned (.tuple #[.agg #[.slice none 0 0, .bool false], .int .i64 (errOf t)]))
theorem PaPost.bad {w w' : World} {t : ByteArray} {n : Int} (h : errOf t = n) (h0 : n ≠ 0) (hb : Below w.heap.size w w') : PaPost w t (.returned (.tuple #[.agg #[.slice none 0 0, .bool false], .int .i64 n])) w' :=
  ⟨hb, by rw [if_neg (by rw [h]; exact h0), h]⟩
theorem PaPost.good {w w' : World} {t : ByteArray} (h : errOf t = 0) {v : Value} {b : Bool} (hs : b = (!(partsOf t).isEmpty && endsSlash t)) (ho : w'.ownsRow w.heap.size 9 1 v (partsOf t).length ((partsOf t).map vS)) (hb : Below w.heap.size w w') : PaPost w t (.returned (.tuple #[.agg #[v, .bool b], .int .i64 0])) w' :=
  ⟨hb, by rw [if_pos h]; exact ⟨v, by rw [hs], ho⟩⟩

theorem parse_tail {w W : World} {D n cp : Nat} {A : Option Addr} {t : ByteArray} {P pre : List ByteArray} {sl : Bool} {tmps : Array Value} (hI : PaI w (w.heap.size + 1 + 1 + 1 + 1 + 1 + 1) pre W) (hK : W.heap[D]? = some (.deferred (some []))) (hR : W.ownsRow (w.heap.size + 1 + 1 + 1 + 1 + 1 + 1) 9 1 (.slice A P.length cp) P.length (P.map vS))
    (hP : partsOf t = P) (hn : n = P.length) (hD : w.heap.size + 1 + 1 < D) (hE : errOf t = 0) (hs : sl = (!(partsOf t).isEmpty && endsSlash t)) (h2 : tmps[2]?.getD undef = .pointer (some ⟨w.heap.size, 0, none⟩)) (h3 : tmps[3]?.getD undef = .pointer (some ⟨w.heap.size + 1, 0, none⟩)) :
    bodyPostM Fence.wide 6 Tryd.prog Tryd.f17 (PaPost w t) .ret { tmps := tmps, defers := [{ target := .collected D, args := #[] }] }
      ((((W.setCell ⟨w.heap.size + 1 + 1, 1, none⟩ (.bool sl)).setCell ⟨w.heap.size, 0, none⟩ (.slice A n cp)).setCell ⟨w.heap.size, 1, none⟩ (.bool sl)).setCell ⟨w.heap.size + 1, 0, none⟩ (.int .i64 0)) := by
  subst hn
  have HK4 := (heap_setCell_other _ ⟨w.heap.size + 1, 0, none⟩ D (.int .i64 0) (by simp; omega)).trans ((heap_setCell_other _ ⟨w.heap.size, 1, none⟩ D (.bool sl) (by simp; omega)).trans ((heap_setCell_other _ ⟨w.heap.size, 0, none⟩ D (.slice A P.length cp) (by simp; omega)).trans ((heap_setCell_other _ ⟨w.heap.size + 1 + 1, 1, none⟩ D (.bool sl) (by simp; omega)).trans hK)))
  have h1 := heap_setCell_same _ _ 0 _ _ (.slice A P.length cp) ((heap_setCell_other _ ⟨w.heap.size + 1 + 1, 1, none⟩ w.heap.size (.bool sl) (by simp; omega)).trans hI.b2)
  have k2 := (heap_setCell_other _ ⟨w.heap.size + 1, 0, none⟩ w.heap.size (.int .i64 0) (by simp)).trans (heap_setCell_same _ _ 1 _ _ (.bool sl) h1)
  have k3 := heap_setCell_same _ _ 0 _ _ (.int .i64 0) ((heap_setCell_other _ ⟨w.heap.size, 1, none⟩ (w.heap.size + 1) (.bool sl) (by simp)).trans ((heap_setCell_other _ ⟨w.heap.size, 0, none⟩ (w.heap.size + 1) (.slice A P.length cp) (by simp)).trans ((heap_setCell_other _ ⟨w.heap.size + 1 + 1, 1, none⟩ (w.heap.size + 1) (.bool sl) (by simp)).trans hI.b3)))
  have hbe := (((hI.bel.setCell (p := ⟨w.heap.size + 1 + 1, 1, none⟩) (by simp; omega) (.bool sl)).setCell (p := ⟨w.heap.size, 0, none⟩) (Nat.le_refl _) (.slice A P.length cp)).setCell (p := ⟨w.heap.size, 1, none⟩) (Nat.le_refl _) (.bool sl)).setCell (p := ⟨w.heap.size + 1, 0, none⟩) (by simp) (.int .i64 0)
  have hcc := ((((Chg.refl (fun b => b < w.heap.size + 1 + 1 + 1) W).setCell (p := ⟨w.heap.size + 1 + 1, 1, none⟩) (fun _ => by simp) (.bool sl)).setCell (p := ⟨w.heap.size, 0, none⟩) (fun _ => by simp; omega) (.slice A P.length cp)).setCell (p := ⟨w.heap.size, 1, none⟩) (fun _ => by simp; omega) (.bool sl)).setCell (p := ⟨w.heap.size + 1, 0, none⟩) (fun _ => by simp) (.int .i64 0)
  have how := own_base (own_chg hR hcc (fun k e => by have := (hR.lt _ e).1; omega)) (show w.heap.size ≤ w.heap.size + 1 + 1 + 1 + 1 + 1 + 1 by omega)
  exact parse_end HK4 h2 h3 k2 k3 (PaPost.good hE hs (by rw [hP]; exact ownsRow_putObj how _ HK4 rfl) (below_putObj hbe (by omega) _))

set_option maxRecDepth 100000 in
set_option maxHeartbeats 4000000 in
theorem parse_in (w : World) (t : ByteArray) :
    CallsIn Fence.wide 6 Tryd.prog 17 #[.string t] w (PaPost w t) := by
  obtain ⟨i0, hi, hz0, hz1, hz2⟩ := info_parts info9
  by_cases h2 : 200 < t.size
  · have HE := Lib.hid (show errOf t = 140 from if_pos h2)
    refine callsIn_wide.2 ?_
    go_enter Tryd.func17, Tryd.ntmps17
    go_wp2_with fail
    go_returns
    exact PaPost.bad HE.out (by decide) (((Below.refl _ _).alloc (Nat.le_refl _) _).alloc (by simp) _)
  · have HP := Lib.hid (hasPrefix_any t)
    by_cases h3 : (bys t).head? = some 47
    · rw [show decide ((bys t).head? = some 47) = true from by simp [h3]] at HP
      have HI := Lib.hid (Tryd.strings_IndexByte t 0)
      rw [show ((0 : Int).toNat.toUInt8) = 0 from rfl] at HI
      rcases nul_at t with ⟨hn, hn2⟩ | ⟨hn, hn2⟩
      · change Hid (∀ w, Calls Tryd.prog 36 #[.string t, .int .u8 0] w fun e w' => e = .returned (.int .i64 (Lib.indexByte (bys t) 0)) ∧ w' = w) at HI
        rw [hn] at HI
        have HER := Lib.hid (show errOf t = if ∃ x ∈ frs t.size t, 28 < x.size then 142 else 0 by unfold errOf; rw [if_neg h2, if_neg (by rw [h3]; simp), if_neg hn2])
        have hsz : t.size ≤ 200 := by omega
        have hd : decide ((200 : Int) < t.size) = false := by simp; omega
        clear h2 h3 hn hn2
        refine callsIn_of_wp_marks Tryd.func17 rfl trivial ?_ rfl
        simp only [Tryd.ntmps17, List.size_toArray, List.length_cons, List.length_nil, Nat.reduceAdd, Nat.reduceSub, Array.replicate_succ, Array.replicate_zero, List.push_toArray, List.append_toArray, List.nil_append, List.cons_append]
        gi_wp2_with (first | (refine ⟨trivial, ?_⟩; gi_at_call 35; refine (callsIn_wide.2 (HP.out _)).mono ?_; rintro e w1 ⟨rfl, rfl⟩) | (refine ⟨trivial, ?_⟩; gi_at_call 36; refine (callsIn_wide.2 (HI.out _)).mono ?_; rintro e w1 ⟨rfl, rfl⟩) | (refine ⟨trivial, ?_⟩; gi_at_call 37; refine (callsIn_wide.2 (split_any _ t)).mono ?_; rintro e w1 ⟨rfl, rfl⟩))
        have hsb : SpBox (w.heap.size + 1 + 1 + 1) (w.heap.size + 1 + 1 + 1 + 1) (w.heap.size + 1 + 1 + 1 + 1 + 1) t ((((((w.alloc (.cells #[.slice none 0 0, .bool false] 25)).alloc (.cells #[.int .i64 0] 26)).alloc (.cells #[.slice none 0 0, .bool false] 25)).alloc (.cells #[.string t] 9)).alloc (.cells #[.string ⟨#[47]⟩] 9)).alloc (.cells #[.int .i64 0] 3)) := by
          have := SpBox.new (((w.alloc (.cells #[.slice none 0 0, .bool false] 25)).alloc (.cells #[.int .i64 0] 26)).alloc (.cells #[.slice none 0 0, .bool false] 25)) t
          simp only [World.size_alloc] at this
          exact this
        have hpi : PaI w (w.heap.size + 1 + 1 + 1 + 1 + 1 + 1) [] ((((((w.alloc (.cells #[.slice none 0 0, .bool false] 25)).alloc (.cells #[.int .i64 0] 26)).alloc (.cells #[.slice none 0 0, .bool false] 25)).alloc (.cells #[.string t] 9)).alloc (.cells #[.string ⟨#[47]⟩] 9)).alloc (.cells #[.int .i64 0] 3)) := by
          have e1 := heap_alloc_new (w.alloc (.cells #[.slice none 0 0, .bool false] 25)) (.cells #[.int .i64 0] 26)
          have e2 := heap_alloc_new ((w.alloc (.cells #[.slice none 0 0, .bool false] 25)).alloc (.cells #[.int .i64 0] 26)) (.cells #[.slice none 0 0, .bool false] 25)
          simp only [World.size_alloc] at e1 e2
          refine ⟨?_, ?_, ⟨_, ?_, World.ownsRow_nil _ _ _ _⟩, fun _ h => (by cases h), ?_⟩
          · iterate 5 refine (Below.heap_alloc _ _ _ (by simp; try omega)).trans ?_
            exact heap_alloc_new w _
          · iterate 4 refine (Below.heap_alloc _ _ _ (by simp; try omega)).trans ?_
            exact e1
          · iterate 3 refine (Below.heap_alloc _ _ _ (by simp; try omega)).trans ?_
            exact e2
          · exact (((((Below.alloc (Below.refl _ _) (Nat.le_refl _) _).alloc (by simp) _).alloc (by simp; omega) _).alloc (by simp; omega) _).alloc (by simp; omega) _).alloc (by simp; omega) _
        obtain ⟨W0, hW0⟩ : ∃ W, (((((w.alloc (.cells #[.slice none 0 0, .bool false] 25)).alloc (.cells #[.int .i64 0] 26)).alloc (.cells #[.slice none 0 0, .bool false] 25)).alloc (.cells #[.string t] 9)).alloc (.cells #[.string ⟨#[47]⟩] 9)).alloc (.cells #[.int .i64 0] 3) = W := ⟨_, rfl⟩
        have hz : W0.heap.size = w.heap.size + 1 + 1 + 1 + 1 + 1 + 1 := by rw [← hW0]; simp only [World.size_alloc]
        rw [hW0] at hsb hpi ⊢
        clear hW0
        refine range_law rfl (by omega) (gf := 59) (lb := #[.pointer (some ⟨w.heap.size + 1 + 1 + 1 + 1, 0, none⟩), .pointer (some ⟨w.heap.size + 1 + 1 + 1, 0, none⟩), .pointer (some ⟨w.heap.size + 1 + 1 + 1 + 1 + 1, 0, none⟩)]) rfl trivial (enters_of Tryd.func59 (by kernel_rfl) rfl)
          (encs := fun x : ByteArray => #[.string x]) (q := w.heap.size + 1 + 1 + 1) (K := fun b => b = w.heap.size + 1 + 1 + 1 ∨ b = w.heap.size + 1 + 1 + 1 + 1 ∨ b = w.heap.size + 1 + 1 + 1 + 1 + 1) (by omega) (fun b hb => by omega) (seq_gives W0 _ _ _ t hsb hsz _) (fun _ => rfl)
          (PaI w (w.heap.size + 1 + 1 + 1 + 1 + 1 + 1)) (fun j pre W => j = .ret ∧ PaX w pre W) (fun pre A B h hs => h.sim hs (by omega) (by omega)) (fun j pre A B h hs => ⟨h.1, h.2.sim hs (by omega) (by omega)⟩) hpi
          (fun x a' _ => a' = { tmps := #[.string t, undef, .pointer (some ⟨w.heap.size, 0, none⟩), .pointer (some ⟨w.heap.size + 1, 0, none⟩), .pointer (some ⟨w.heap.size + 1 + 1, 0, none⟩), .string x, .bool false, .string t, .int .i64 t.size, .bool false, undef, .bool false, .string t, .bool true, .bool false, .string t, .int .i64 (-1), .bool false, undef, .string t,
            .func (.func 59) #[] #[.pointer (some ⟨w.heap.size + 1 + 1 + 1 + 1, 0, none⟩), .pointer (some ⟨w.heap.size + 1 + 1 + 1, 0, none⟩), .pointer (some ⟨w.heap.size + 1 + 1 + 1 + 1 + 1, 0, none⟩)], .string x, undef, undef, undef, undef, undef, undef, undef, undef, undef, undef, undef, undef, undef, undef, undef, undef, undef, undef, undef, undef, undef, undef, undef, undef, undef, undef], defers := [] })
          (fun _ _ _ _ h _ => h) ?assign ?body ?done ?stop
        case assign =>
          intro l pre x W K hi _ _ hK
          have HK := Lib.hid (hK _ _ (Held.refl _ _ _) hi rfl)
          clear hK hi
          gi_wp2
          exact HK.out
        case body =>
          rintro l pre x a' W hI rfl hpx hwz _ _ _
          obtain ⟨v, hv, hr⟩ := hI.row
          have hpre : pre.length + 1 ≤ 201 := by
            have h1 := hpx.length_le
            have h2 := frs_len t.size t
            simp at h1
            omega
          have hkl : (kept pre).length ≤ pre.length := List.length_filter_le _ _
          have b2 := hI.b2
          have b3 := hI.b3
          have c0 : W.cell? ⟨w.heap.size, 0, none⟩ = some (.slice none 0 0) := by rw [cell_of_row _ _ _ _ _ _ b2]; rfl
          have c1 : W.cell? ⟨w.heap.size, 1, none⟩ = some (.bool false) := by rw [cell_of_row _ _ _ _ _ _ b2]; rfl
          have c2 : W.cell? ⟨w.heap.size + 1, 0, none⟩ = some (.int .i64 0) := by rw [cell_of_row _ _ _ _ _ _ b3]; rfl
          have c3 : W.cell? ⟨w.heap.size + 1 + 1, 0, none⟩ = some v := by rw [cell_of_row _ _ _ _ _ _ hv]; rfl
          have f0 := frozen_of_row _ _ 0 _ _ b2
          have f1 := frozen_of_row _ _ 1 _ _ b2
          have f2 := frozen_of_row _ _ 0 _ _ b3
          have HI2 := Lib.hid hI
          have HV := Lib.hid hv
          have HR := Lib.hid hr
          clear hI hv hr hpx b2 b3
          by_cases hx0 : x.size = 0
          · have he : x.toList.isEmpty = true := by rw [toList_bys, List.isEmpty_iff, ← List.length_eq_zero_iff, bys_length]; exact hx0
            have HT : Hid (PaI w (w.heap.size + 1 + 1 + 1 + 1 + 1 + 1) (pre ++ [x]) W) := ⟨HI2.out.b2, HI2.out.b3, ⟨v, HV.out, by rw [kept_snoc, if_pos hx0, List.append_nil]; exact HR.out⟩, fun y hy => (List.mem_append.1 hy).elim (HI2.out.short y) (fun e => by rw [List.mem_singleton.1 e]; omega), HI2.out.bel⟩
            clear c0 c1 c2 c3 f0 f1 f2
            gi_wp2
            exact ⟨Held.refl _ _ _, HT.out⟩
          · have he : x.toList.isEmpty = false := by
              cases h : x.toList.isEmpty
              · rfl
              · rw [toList_bys, List.isEmpty_iff, ← List.length_eq_zero_iff, bys_length] at h; exact (hx0 h).elim
            by_cases hx : 28 < x.size
            · gi_wp2
              have h1 := heap_setCell_same _ _ 0 _ _ (.slice none 0 0) HI2.out.b2
              have h2 := heap_setCell_same _ _ 1 _ _ (.bool false) h1
              have h3 := (heap_setCell_other _ ⟨w.heap.size + 1, 0, none⟩ _ (.int .i64 142) (by simp)).trans h2
              have h4 := (heap_setCell_other _ ⟨w.heap.size, 1, none⟩ _ (.bool false) (by simp)).trans ((heap_setCell_other _ ⟨w.heap.size, 0, none⟩ _ (.slice none 0 0) (by simp)).trans HI2.out.b3)
              have h5 := heap_setCell_same _ _ 0 _ _ (.int .i64 142) h4
              have hch : Chg (fun b => b = w.heap.size ∨ b = w.heap.size + 1) W (((W.setCell ⟨w.heap.size, 0, none⟩ (.slice none 0 0)).setCell ⟨w.heap.size, 1, none⟩ (.bool false)).setCell ⟨w.heap.size + 1, 0, none⟩ (.int .i64 142)) :=
                (((Chg.refl (fun b => b = w.heap.size ∨ b = w.heap.size + 1) W).setCell (p := ⟨w.heap.size, 0, none⟩) (fun _ => .inl rfl) _).setCell (p := ⟨w.heap.size, 1, none⟩) (fun _ => .inl rfl) _).setCell (p := ⟨w.heap.size + 1, 0, none⟩) (fun _ => .inr rfl) _
              refine ⟨Held.of_chg hch (fun b hb h => by omega) (fun b hb h => by omega) (fun b hb => by omega), rfl, h3, h5, ⟨x, by simp, hx⟩, HI2.out.bel.trans (hch.below _ HI2.out.bel.size (fun b hb h => by omega))⟩
            · gi_wp2_with (gi_at_builtin; refine wpListIn_append_own _ rfl _ _ 23 rfl (w.heap.size + 1 + 1 + 1 + 1 + 1 + 1) 9 i0 (.string ByteArray.empty) 1 16 Tryd.underlying23 hi hz0 hz1 hz2 rfl (by decide) v (kept pre).length _ rfl (HR.out.alloc _) ⟨W.heap.size, 0, none⟩ 1 1 [.string x] rfl rfl (cell_one_new _ _ _) (by simp [Value.oneCell']) (by simp only [maxLen]; omega) (by omega) (by simp; omega) ?_; intro v' w1 hown' hgrow _; obtain ⟨g', cap', rfl⟩ := ownsRow_succ hown'; have hch : Chg (fun b => v.ownBlock = some b) W w1 := ((Chg.refl _ W).alloc _).grown hgrow (fun k e _ => e); have hrow := HR.out.lt; have hb4 := hch.heap HV.out (fun e => by have := hrow _ e; omega); have d0 : w1.cell? ⟨w.heap.size + 1 + 1, 0, none⟩ = some v := (by rw [cell_of_row _ _ _ _ _ _ hb4]; rfl); have df := frozen_of_row _ _ 0 _ _ hb4; have HX := Lib.hid (And.intro hown' (And.intro hch hb4)); clear hown' hgrow hch hrow hb4)
              obtain ⟨hown', hch, hb4⟩ := HX.out
              have hrow := HR.out.lt
              have hcc : Chg (fun b => b = w.heap.size + 1 + 1 ∨ v.ownBlock = some b) W (w1.setCell ⟨w.heap.size + 1 + 1, 0, none⟩ (.slice (some ⟨g', 0, none⟩) ((kept pre).length + 1) cap')) :=
                (hch.mono (fun _ _ e => .inr e)).setCell (p := ⟨w.heap.size + 1 + 1, 0, none⟩) (fun _ => .inl rfl) _
              have hnd : ∀ b, b < w.heap.size + 1 + 1 → ¬ (b = w.heap.size + 1 + 1 ∨ v.ownBlock = some b) := fun b hb h => h.elim (fun e => by omega) (fun e => by have := hrow _ e; omega)
              have hgl := hown'.lt _ rfl
              refine ⟨Held.of_chg hcc ?_ ?_ (fun b hb => by omega), hcc.heap HI2.out.b2 (hnd _ (by omega)), hcc.heap HI2.out.b3 (hnd _ (by omega)), ⟨_, heap_setCell_same _ _ 0 _ _ _ hb4, ?_⟩, ?_, HI2.out.bel.trans (hcc.below _ HI2.out.bel.size (fun b hb => hnd b (by omega)))⟩
              · rintro b (rfl | e) hb
                · omega
                · exact own_cells HR.out e
              · rintro b hb (rfl | e)
                · omega
                · have := hrow _ e; omega
              · rw [kept_snoc, if_neg hx0, List.length_append, List.map_append]
                exact own_chg hown' ((Chg.refl (fun b => b = w.heap.size + 1 + 1) w1).setCell (p := ⟨w.heap.size + 1 + 1, 0, none⟩) (fun _ => rfl) _) (fun k e => by have := (hown'.lt _ e).1; omega)
              · intro y hy
                rcases List.mem_append.1 hy with h | h
                · exact HI2.out.short y h
                · rw [List.mem_singleton.1 h]; omega
        case done =>
          rintro D W hD hI hK
          obtain ⟨v, hv, hr⟩ := hI.row
          have hnl : ¬ ∃ x ∈ frs t.size t, 28 < x.size := fun ⟨x, hx, h⟩ => by have := hI.short x hx; omega
          have hE0 : errOf t = 0 := by rw [HER.out, if_neg hnl]
          have b2 := hI.b2
          have b3 := hI.b3
          obtain ⟨A, cp, rfl⟩ : ∃ A cp, v = .slice A (kept (frs t.size t)).length cp := by
            rcases hr.2 with ⟨h, h0⟩ | ⟨g, cap, cur, h, _⟩
            · exact ⟨none, 0, by rw [h, h0]⟩
            · exact ⟨_, _, h⟩
          have c0 : W.cell? ⟨w.heap.size, 0, none⟩ = some (.slice none 0 0) := by rw [cell_of_row _ _ _ _ _ _ b2]; rfl
          have c1 : W.cell? ⟨w.heap.size, 1, none⟩ = some (.bool false) := by rw [cell_of_row _ _ _ _ _ _ b2]; rfl
          have c2 : W.cell? ⟨w.heap.size + 1, 0, none⟩ = some (.int .i64 0) := by rw [cell_of_row _ _ _ _ _ _ b3]; rfl
          have c3 : W.cell? ⟨w.heap.size + 1 + 1, 0, none⟩ = some (.slice A (kept (frs t.size t)).length cp) := by rw [cell_of_row _ _ _ _ _ _ hv]; rfl
          have c4 : W.cell? ⟨w.heap.size + 1 + 1, 1, none⟩ = some (.bool false) := by rw [cell_of_row _ _ _ _ _ _ hv]; rfl
          have f0 := frozen_of_row _ _ 0 _ _ b2
          have f1 := frozen_of_row _ _ 1 _ _ b2
          have f2 := frozen_of_row _ _ 0 _ _ b3
          have f4 := frozen_of_row _ _ 1 _ _ hv
          have HI3 := Lib.hid hI
          have HV := Lib.hid hv
          have HR := Lib.hid hr
          have HK := Lib.hid hK
          have HE0 := Lib.hid hE0
          have hp1 := parts_pos t
          clear hI hv hr hK b2 b3 HER hnl hE0
          have hkn : (kept (frs t.size t)).length ≤ 201 := by
            have h1 := frs_len t.size t
            have h2 : (kept (frs t.size t)).length ≤ (frs t.size t).length := List.length_filter_le _ _
            omega
          unfold partsOf at hp1
          generalize hP : kept (frs t.size t) = P at *
          have HPQ := Lib.hid (show partsOf t = P from hP)
          clear hP
          rcases Nat.eq_zero_or_pos P.length with hp | hp
          · obtain rfl := List.length_eq_zero_iff.1 hp
            gi_wp2
            refine ⟨trivial, ?_⟩
            gi_wp2
            exact parse_tail HI3.out HK.out HR.out HPQ.out rfl (by omega) HE0.out (by rw [HPQ.out]; simp) rfl rfl
          · have hsz1 := hp1 hp
            gi_wp2_with (refine ⟨trivial, ?_⟩; gi_at_call 38; refine (callsIn_wide.2 (isSlash_any _ _)).mono ?_; rintro e w1 ⟨rfl, rfl⟩)
            generalize hsl : (((t[t.size - 1]'(by omega)).toNat : Int) == 47) = sl at *
            exact parse_tail HI3.out HK.out HR.out HPQ.out rfl (by omega) HE0.out (by rw [HPQ.out, ends_at t hsz1, hsl]; cases P with
              | nil => simp at hp
              | cons a l => simp) rfl rfl
        case stop =>
          rintro D j pre W hD hpre ⟨rfl, hX⟩ hK
          have HX := Lib.hid hX
          have HK := Lib.hid hK
          have hE : errOf t = 142 := by
            rw [HER.out, if_pos]
            obtain ⟨x, hx, h⟩ := hX.long
            exact ⟨x, hpre.subset hx, h⟩
          have HE := Lib.hid hE
          clear hX hK hE
          gi_wp2
          exact parse_end HK.out rfl rfl HX.out.b2 HX.out.b3 (PaPost.bad HE.out (by decide) (below_putObj HX.out.bel (by omega) _))
      · change Hid (∀ w, Calls Tryd.prog 36 #[.string t, .int .u8 0] w fun e w' => e = .returned (.int .i64 (Lib.indexByte (bys t) 0)) ∧ w' = w) at HI
        have HE := Lib.hid (show errOf t = 141 by unfold errOf; rw [if_neg h2, if_neg (by rw [h3]; simp), if_pos hn2])
        generalize Lib.indexByte (bys t) 0 = ix at *
        refine callsIn_wide.2 ?_
        go_enter Tryd.func17, Tryd.ntmps17
        go_wp2_with (first | (go_at_call 35; refine (HP.out _).mono ?_; rintro e w1 ⟨rfl, rfl⟩) | (go_at_call 36; refine (HI.out _).mono ?_; rintro e w1 ⟨rfl, rfl⟩))
        go_returns
        exact PaPost.bad HE.out (by decide) (((Below.refl _ _).alloc (Nat.le_refl _) _).alloc (by simp) _)
    · rw [show decide ((bys t).head? = some 47) = false from by simp [h3]] at HP
      have HE := Lib.hid (show errOf t = 141 by unfold errOf; rw [if_neg h2, if_pos h3])
      refine callsIn_wide.2 ?_
      go_enter Tryd.func17, Tryd.ntmps17
      go_wp2_with (go_at_call 35; refine (HP.out _).mono ?_; rintro e w1 ⟨rfl, rfl⟩)
      go_returns
      exact PaPost.bad HE.out (by decide) (((Below.refl _ _).alloc (Nat.le_refl _) _).alloc (by simp) _)

/-- Parse, for a plain walk -/
theorem parse_any (w : World) (t : ByteArray) : Calls Tryd.prog 17 #[.string t] w (PaPost w t) := callsIn_wide.1 (parse_in w t)

end Go.Proofs.YtpombeiabgbpiaaDoor
