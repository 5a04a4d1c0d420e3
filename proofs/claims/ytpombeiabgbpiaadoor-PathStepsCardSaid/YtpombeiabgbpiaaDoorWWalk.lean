/-
path.walk: through parts from the root, over whatever directories answer.
-/
import Derived.Test.YtpombeiabgbpiaaDoorWTable
import Derived.Deep.AppendLies
import Derived.WalkMore
import Derived.Maps.AppendAt
namespace Go.Proofs.YtpombeiabgbpiaaDoor
open Go.RowKit

def dot1 : ByteArray := ⟨#[46]⟩
def dot2 : ByteArray := ⟨#[46, 46]⟩
/-- where parts lead from the end of a way on, and the error -/
def wkF (lk : Int → ByteArray → Int × Bool) : List (Int × Bool) → List ByteArray → (Int × Bool) × Int
  | way, [] => (way.getLastD (0, false), 0)
  | way, s :: r =>
    if (way.getLastD (0, false)).2 = false then ((0, false), 144)
    else if s = dot1 then wkF lk way r
    else if s = dot2 then wkF lk (way.take (max 1 (way.length - 1))) r
    else if (lk (way.getLastD (0, false)).1 s).1 < 1 then ((0, false), 143)
    else wkF lk (way ++ [lk (way.getLastD (0, false)).1 s]) r
/-- what is asked on the way -/
def wkA (lk : Int → ByteArray → Int × Bool) : List (Int × Bool) → List ByteArray → List (Int × ByteArray)
  | _, [] => []
  | way, s :: r =>
    if (way.getLastD (0, false)).2 = false then []
    else if s = dot1 then wkA lk way r
    else if s = dot2 then wkA lk (way.take (max 1 (way.length - 1))) r
    else if (lk (way.getLastD (0, false)).1 s).1 < 1 then [((way.getLastD (0, false)).1, s)]
    else ((way.getLastD (0, false)).1, s) :: wkA lk (way ++ [lk (way.getLastD (0, false)).1 s]) r
def rootW : List (Int × Bool) := [(1, true)]

/-- directories at p that answer lk: J of what was asked, in blocks fp; if ro, nothing is written -/
structure DirsAt (F : Nat) (p : Addr) (lk : Int → ByteArray → Int × Bool) (J : List (Int × ByteArray) → World → Prop) (fp : World → Nat → Prop) (ro : Prop) : Prop where
  look : ∀ qs W d s, J qs W → (Lit.int .i64 d).wf = true → s.size ≤ maxLen → Calls Tryd.prog F #[.pointer (some p), .int .i64 d, .string s] W fun e W' =>
    e = .returned (.tuple #[.int .i64 (lk d s).1, .bool (lk d s).2]) ∧ J (qs ++ [(d, s)]) W' ∧ Chg (fun b => ¬ ro ∧ fp W b) W W' ∧ ∀ b, fp W' b → fp W b ∨ W.heap.size ≤ b
  lt : ∀ qs W b, J qs W → fp W b → b < W.heap.size
  keep : ∀ qs W W', J qs W → (∀ b, fp W b → W'.heap[b]? = W.heap[b]?) → J qs W' ∧ ∀ b, fp W' b ↔ fp W b
  wf : ∀ d s, (Lit.int .i64 (lk d s).1).wf = true

def stopsC (l : List (Int × Bool)) : List Value := l.flatMap fun x => [.int .i64 x.1, .bool x.2]
theorem stopsC_snoc (l : List (Int × Bool)) (x : Int × Bool) : stopsC (l ++ [x]) = stopsC l ++ [.int .i64 x.1, .bool x.2] := by simp [stopsC]
theorem stopsC_len (l : List (Int × Bool)) : (stopsC l).length = l.length * 2 := by
  induction l with
  | nil => rfl
  | cons a l ih => simp [stopsC] at ih ⊢; omega

/-- behind k parts -/
structure WkB (w : World) (J : List (Int × ByteArray) → World → Prop) (fp : World → Nat → Prop) (ro : Prop) (k : Nat) (qs : List (Int × ByteArray)) (pre : List (Int × Bool)) (z : Int × Bool) (v : Value) (W : World) : Prop where
  row : W.ownsRow (w.heap.size + 1) 83 2 v (pre.length + 1) (stopsC (pre ++ [z]))
  box : W.heap[w.heap.size]? = some (.cells #[.int .i64 0, .bool false] 83 (0, 0))
  j : J qs W
  chg : Chg (fun b => ¬ ro ∧ fp w b) w W
  new : ∀ b, fp W b → fp w b ∨ w.heap.size ≤ b
  fbox : ¬ fp W w.heap.size
  frow : ∀ g, v.ownBlock = some g → ¬ fp W g
  wfz : ∀ x ∈ pre ++ [z], (Lit.int .i64 x.1).wf = true
  len : pre.length ≤ k
section
variable {w : World} {F : Nat} {p : Addr} {J : List (Int × ByteArray) → World → Prop} {fp : World → Nat → Prop} {ro : Prop} {lk : Int → ByteArray → Int × Bool} {k : Nat} {qs : List (Int × ByteArray)} {pre : List (Int × Bool)} {z : Int × Bool} {v : Value} {W : World}

theorem WkB.below {W' : World} (D : DirsAt F p lk J fp ro) (h : WkB w J fp ro k qs pre z v W) (hb : Below W.heap.size W W') : WkB w J fp ro k qs pre z v W' := by
  obtain ⟨hj, hf⟩ := D.keep qs W W' h.j (fun b hf => hb.block b (D.lt _ _ _ h.j hf))
  exact ⟨own_chg h.row (Chg.of_below (fun _ => False) hb) (fun _ _ h => h), (hb.block _ (heap_lt h.box)).trans h.box, hj, h.chg.trans (Chg.of_below (fun _ => False) hb) (fun _ _ h => h.elim),
    fun b hb => h.new b ((hf b).1 hb), fun hb => h.fbox ((hf _).1 hb), fun g hg hb => h.frow g hg ((hf g).1 hb), h.wfz, h.len⟩

theorem WkB.last (h : WkB w J fp ro k qs pre z v W) : ∃ g cap, v = .slice (some ⟨g, 0, none⟩) (pre.length + 1) cap ∧ w.heap.size + 1 ≤ g ∧ g < W.heap.size ∧ pre.length + 1 ≤ cap ∧ cap ≤ maxLen ∧ W.cell? ⟨g, pre.length * 2, none⟩ = some (.int .i64 z.1) ∧ W.cell? ⟨g, pre.length * 2 + 1, none⟩ = some (.bool z.2) := by
  rcases h.row.2 with ⟨_, h0⟩ | ⟨g, cap, cur, rfl, hb, hg, h1, h2, h3, h4⟩
  · omega
  · have hc : ∀ i x, (stopsC (pre ++ [z]))[i]? = some x → W.cell? ⟨g, i, none⟩ = some x := fun i x hx => by
      rw [cell_of_row _ _ _ _ _ _ hg]
      have hi := (List.getElem?_eq_some_iff.1 hx).1
      rw [stopsC_len, List.length_append, List.length_singleton] at hi
      rw [← h4, List.getElem?_take, if_pos (by omega)] at hx
      rwa [Array.getElem?_toList] at hx
    refine ⟨g, cap, rfl, hb, heap_lt hg, h1, h2, hc _ _ ?_, hc _ _ ?_⟩
    · rw [stopsC_snoc, List.getElem?_append_right (by rw [stopsC_len]; exact Nat.le_refl _), stopsC_len, Nat.sub_self]; rfl
    · rw [stopsC_snoc, List.getElem?_append_right (by rw [stopsC_len]; omega), stopsC_len, show pre.length * 2 + 1 - pre.length * 2 = 1 by omega]; rfl

theorem WkB.next (h : WkB w J fp ro k qs pre z v W) : WkB w J fp ro (k + 1) qs pre z v W := { h with len := by have := h.len; omega }

theorem stopsC_take : ∀ (l : List (Int × Bool)) (n : Nat), (stopsC l).take (n * 2) = stopsC (l.take n)
  | [], n => by simp [stopsC]
  | a :: l, 0 => by simp [stopsC]
  | a :: l, n + 1 => by
    have := stopsC_take l n
    simp only [stopsC, List.flatMap_cons, List.take_succ_cons] at this ⊢
    rw [show (n + 1) * 2 = n * 2 + 2 by omega]
    simp [this]

theorem WkB.up {g cap : Nat} (h : WkB w J fp ro k qs pre z (.slice (some ⟨g, 0, none⟩) (pre.length + 1) cap) W) : ∃ pre' z', (pre ++ [z]).take (max 1 ((pre ++ [z]).length - 1)) = pre' ++ [z'] ∧ pre'.length + 1 = max 1 pre.length ∧
    WkB w J fp ro (k + 1) qs pre' z' (.slice (some ⟨g, 0, none⟩) (max 1 pre.length) cap) W := by
  have hl : (pre ++ [z]).length - 1 = pre.length := by simp
  have hne : (pre ++ [z]).take (max 1 pre.length) ≠ [] := by
    intro e
    have := congrArg List.length e
    rw [List.length_take] at this
    simp at this
  obtain ⟨pre', z', e⟩ := (List.eq_nil_or_concat ((pre ++ [z]).take (max 1 pre.length))).resolve_left hne
  rw [List.concat_eq_append] at e
  have hlen : pre'.length + 1 = max 1 pre.length := by
    have := congrArg List.length e
    rw [List.length_take] at this
    simp at this
    omega
  refine ⟨pre', z', by rw [hl, e], hlen, ?_⟩
  refine { h with row := ?_, frow := h.frow, wfz := ?_, len := ?_ }
  · obtain ⟨hlen0, hr⟩ := h.row
    refine ⟨by rw [stopsC_len]; simp, .inr ?_⟩
    rcases hr with ⟨_, h0⟩ | ⟨g', cap', cur, hv, hb, hg, h1, h2, h3, h4⟩
    · omega
    · injection hv with hv1 hv2 hv3
      injection hv1 with hv1
      injection hv1 with hv1
      subst hv1 hv3
      refine ⟨g, cap, cur, by rw [hlen], hb, hg, by omega, h2, h3, ?_⟩
      have e2 : (cur.toList.take ((pre.length + 1) * 2)).take ((pre'.length + 1) * 2) = cur.toList.take ((pre'.length + 1) * 2) := by
        rw [List.take_take]; congr 1; omega
      rw [← e2, h4, stopsC_take, hlen, ← e]
  · intro x hx
    rw [← e] at hx
    exact h.wfz x (List.mem_of_mem_take hx)
  · have := h.len
    omega

/-- behind a Look -/
theorem WkB.looked {W1 : World} {s : ByteArray} (h : WkB w J fp ro k qs pre z v W) (hj : J (qs ++ [(z.1, s)]) W1) (hc : Chg (fun b => ¬ ro ∧ fp W b) W W1) (hn : ∀ b, fp W1 b → fp W b ∨ W.heap.size ≤ b) :
    WkB w J fp ro k (qs ++ [(z.1, s)]) pre z v W1 := by
  have hbx : w.heap.size < W.heap.size := heap_lt h.box
  refine ⟨own_chg h.row hc (fun g hg hd => h.frow g hg hd.2), hc.heap h.box (fun hd => h.fbox hd.2), hj, h.chg.trans hc (fun x hx hd => ⟨hd.1, (h.new x hd.2).resolve_right (by omega)⟩), ?_, ?_, ?_, h.wfz, h.len⟩
  · intro b hb
    rcases hn b hb with hb | hb
    · exact h.new b hb
    · exact .inr (by omega)
  · intro hb
    rcases hn _ hb with hb | hb
    · exact h.fbox hb
    · omega
  · intro g hg hb
    rcases hn _ hb with hb | hb
    · exact h.frow g hg hb
    · have := h.row.lt g hg; omega

/-- behind an append -/
theorem WkB.push {W1 W2 : World} {x : Int × Bool} {v' : Value} {o : Obj} (h : WkB w J fp ro k qs pre z v W1) (D : DirsAt F p lk J fp ro) (hx : (Lit.int .i64 x.1).wf = true)
    (ho : W2.ownsRow (w.heap.size + 1) 83 2 v' (pre.length + 1 + 1) (stopsC (pre ++ [z]) ++ [.int .i64 x.1, .bool x.2])) (hg : (W1.alloc o).grownBy W2 v.ownBlock) (hv : v'.ownBlock = v.ownBlock ∨ ∃ g, v'.ownBlock = some g ∧ W1.heap.size ≤ g) :
    WkB w J fp ro (k + 1) qs (pre ++ [z]) x v' W2 := by
  have hlt := h.row.lt
  have hbx := heap_lt h.box
  have hch : Chg (fun b => v.ownBlock = some b) W1 W2 := ((Chg.refl (fun b => v.ownBlock = some b) W1).alloc o).grown hg (fun k e _ => e)
  obtain ⟨hj, hf⟩ := D.keep qs W1 W2 h.j (fun b hb => hch.block b (D.lt _ _ _ h.j hb) (fun e => h.frow b e hb))
  refine ⟨by rw [stopsC_snoc, List.length_append]; exact ho, hch.heap h.box (fun e => by have := hlt _ e; omega), hj, h.chg.trans hch (fun b hb e => by have := hlt _ e; omega), fun b hb => h.new b ((hf b).1 hb), fun hb => h.fbox ((hf _).1 hb), ?_, ?_, by have := h.len; simp; omega⟩
  · intro g hgv hb
    have hb := (hf g).1 hb
    rcases hv with e | ⟨g', e, hle⟩
    · exact h.frow g (by rw [← e]; exact hgv) hb
    · rw [e] at hgv
      obtain rfl := Option.some.inj hgv
      have := D.lt _ _ _ h.j hb
      omega
  · intro y hy
    rcases List.mem_append.1 hy with hy | hy
    · exact h.wfz y hy
    · rw [List.mem_singleton.1 hy]; exact hx
end

theorem wk_fin {w : World} {F : Nat} {p : Addr} {J : List (Int × ByteArray) → World → Prop} {fp : World → Nat → Prop} {ro : Prop} {lk : Int → ByteArray → Int × Bool} {k : Nat} {qs : List (Int × ByteArray)} {pre : List (Int × Bool)} {z : Int × Bool} {v : Value} {W W' : World}
    (h : WkB w J fp ro k qs pre z v W) (D : DirsAt F p lk J fp ro) (hc : Chg (fun b => b = w.heap.size) W W') : J qs W' ∧ Chg (fun b => ¬ ro ∧ fp w b) w W' ∧ ∀ b, fp W' b → fp w b ∨ w.heap.size ≤ b := by
  obtain ⟨hj, hf⟩ := D.keep qs W W' h.j (fun b hb => hc.block b (D.lt _ _ _ h.j hb) (fun e => h.fbox (e ▸ hb)))
  exact ⟨hj, h.chg.trans hc (fun x hx e => by omega), fun b hb => h.new b ((hf b).1 hb)⟩

theorem ne_lit {s : ByteArray} {l : List UInt8} (h : s ≠ ⟨l.toArray⟩) : (s.toList == l) = false := by
  rw [beq_eq_false_iff_ne]
  intro e
  rw [toList_bys] at e
  exact h (ByteArray.ext (by rw [← Array.toArray_toList (xs := s.data)]; exact congrArg List.toArray e))
theorem walk_res {tmps : Array Value} {X : World} {b : Nat} {i e : Int} {d : Bool} (h4 : tmps[4]?.getD undef = .pointer (some ⟨b, 0, none⟩)) (h5 : tmps[5]?.getD undef = .int .i64 e)
    (c0 : X.cell? ⟨b, 0, none⟩ = some (.int .i64 i)) (c1 : X.cell? ⟨b, 1, none⟩ = some (.bool d)) : (results Tryd.f44 tmps).run Tryd.prog X = .ok (.tuple #[.agg #[.int .i64 i, .bool d], .int .i64 e]) X := by
  simp [results, Tryd.results44, go_sem, h4, h5, c0, c1]
theorem set_two (W : World) (b : Nat) (x y x0 y0 : Value) (t : TypeId) (hb : W.heap[b]? = some (.cells #[x0, y0] t (0, 0))) :
    ((W.setCell ⟨b, 0, none⟩ x).setCell ⟨b, 1, none⟩ y).cell? ⟨b, 0, none⟩ = some x ∧ ((W.setCell ⟨b, 0, none⟩ x).setCell ⟨b, 1, none⟩ y).cell? ⟨b, 1, none⟩ = some y := by
  have h1 := heap_setCell_same _ _ 0 _ _ x hb
  have h2 := heap_setCell_same _ _ 1 _ _ y h1
  exact ⟨by rw [cell_of_row _ _ _ _ _ _ h2]; rfl, by rw [cell_of_row _ _ _ _ _ _ h2]; rfl⟩

theorem info83 : (Tryd.prog.info? 83).map (fun i => (i.zero, i.size, i.bytes)) = some (some (.agg #[.int .i64 0, .bool false]), 2, 16) := by kernel_rfl
theorem wk_dir {lk : Int → ByteArray → Int × Bool} {pre : List (Int × Bool)} {z : Int × Bool} {s : ByteArray} {r : List ByteArray} (hz : z.2 = false) : wkF lk (pre ++ [z]) (s :: r) = ((0, false), 144) ∧ wkA lk (pre ++ [z]) (s :: r) = [] := by
  simp [wkF, wkA, hz]
theorem wk_here {lk : Int → ByteArray → Int × Bool} {pre : List (Int × Bool)} {z : Int × Bool} {r : List ByteArray} (hz : z.2 = true) : wkF lk (pre ++ [z]) (dot1 :: r) = wkF lk (pre ++ [z]) r ∧ wkA lk (pre ++ [z]) (dot1 :: r) = wkA lk (pre ++ [z]) r := by
  simp [wkF, wkA, hz]
theorem wk_up {lk : Int → ByteArray → Int × Bool} {pre : List (Int × Bool)} {z : Int × Bool} {r : List ByteArray} (hz : z.2 = true) :
    wkF lk (pre ++ [z]) (dot2 :: r) = wkF lk ((pre ++ [z]).take (max 1 ((pre ++ [z]).length - 1))) r ∧ wkA lk (pre ++ [z]) (dot2 :: r) = wkA lk ((pre ++ [z]).take (max 1 ((pre ++ [z]).length - 1))) r := by
  have : ¬ dot2 = dot1 := by decide
  simp [wkF, wkA, hz, this]
theorem wk_none {lk : Int → ByteArray → Int × Bool} {pre : List (Int × Bool)} {z : Int × Bool} {s : ByteArray} {r : List ByteArray} (hz : z.2 = true) (h1 : s ≠ dot1) (h2 : s ≠ dot2) (hx : (lk z.1 s).1 < 1) :
    wkF lk (pre ++ [z]) (s :: r) = ((0, false), 143) ∧ wkA lk (pre ++ [z]) (s :: r) = [(z.1, s)] := by
  simp [wkF, wkA, hz, h1, h2, hx]
theorem wk_name {lk : Int → ByteArray → Int × Bool} {pre : List (Int × Bool)} {z : Int × Bool} {s : ByteArray} {r : List ByteArray} (hz : z.2 = true) (h1 : s ≠ dot1) (h2 : s ≠ dot2) (hx : ¬ (lk z.1 s).1 < 1) :
    wkF lk (pre ++ [z]) (s :: r) = wkF lk (pre ++ [z] ++ [lk z.1 s]) r ∧ wkA lk (pre ++ [z]) (s :: r) = (z.1, s) :: wkA lk (pre ++ [z] ++ [lk z.1 s]) r := by
  constructor
  · rw [wkF]; simp [hz, h1, h2, hx]
  · rw [wkA]; simp [hz, h1, h2, hx]
theorem wk_end {lk : Int → ByteArray → Int × Bool} {pre : List (Int × Bool)} {z : Int × Bool} : wkF lk (pre ++ [z]) [] = (z, 0) ∧ wkA lk (pre ++ [z]) [] = [] := by
  simp [wkF, wkA]

set_option maxRecDepth 100000 in
set_option maxHeartbeats 4000000 in
/-- walk -/
theorem walk_any (w : World) (p : Addr) (lk : Int → ByteArray → Int × Bool) (J : List (Int × ByteArray) → World → Prop) (fp : World → Nat → Prop) (ro : Prop) (D : DirsAt 25 p lk J fp ro) (qs0 : List (Int × ByteArray)) (hJ : J qs0 w)
    (v : Value) (l : List ByteArray) (hr : RdS w v l) (hro : ∀ b off n c, v = .slice (some ⟨b, off, none⟩) n c → ¬ (¬ ro ∧ fp w b)) (hlen : l.length + 1 ≤ 8796093022208) (hnm : ∀ s ∈ l, s.size ≤ maxLen) :
    Calls Tryd.prog 44 #[.iface 36 (.pointer (some p)), v] w fun e w' => e = .returned (.tuple #[.agg #[.int .i64 (wkF lk rootW l).1.1, .bool (wkF lk rootW l).1.2], .int .i64 (wkF lk rootW l).2]) ∧
      J (qs0 ++ wkA lk rootW l) w' ∧ Chg (fun b => ¬ ro ∧ fp w b) w w' ∧ ∀ b, fp w' b → fp w b ∨ w.heap.size ≤ b := by
  obtain ⟨i0, hi, hz0, hz1, hz2⟩ := info_parts info83
  obtain ⟨A, c, rfl, h1, h2, h3⟩ := hr
  have HR := Lib.hid h3
  have HRO := Lib.hid hro
  have HD := Lib.hid D
  have HN := Lib.hid hnm
  have hcm : c ≤ 9223372036854775807 := maxLen_eq ▸ h2
  obtain ⟨n, hn⟩ : ∃ n, l.length = n := ⟨_, rfl⟩
  have HL := Lib.hid hn
  rw [hn] at h1 hlen ⊢
  have HS0 : Hid (WkB w J fp ro 0 qs0 [] (1, true) (.slice (some ⟨w.heap.size + 1, 0, none⟩) 1 1) ((w.alloc (.cells #[.int .i64 0, .bool false] 83)).alloc (.cells #[.int .i64 1, .bool true] 83))) := by
    have hb : Below w.heap.size w ((w.alloc (.cells #[.int .i64 0, .bool false] 83)).alloc (.cells #[.int .i64 1, .bool true] 83)) := ((Below.refl _ _).alloc (Nat.le_refl _) _).alloc (by simp) _
    obtain ⟨hj, hf⟩ := D.keep qs0 w _ hJ (fun b hf => hb.block b (D.lt _ _ _ hJ hf))
    refine Lib.hid ⟨⟨rfl, .inr ⟨w.heap.size + 1, 1, #[.int .i64 1, .bool true], rfl, Nat.le_refl _, ?_, by simp, by simp [maxLen], rfl, rfl⟩⟩, ?_, hj, Chg.of_below _ hb, fun b hb => .inl ((hf b).1 hb), ?_, ?_, ?_, by simp⟩
    · simpa using heap_alloc_new (w.alloc (.cells #[.int .i64 0, .bool false] 83)) (.cells #[.int .i64 1, .bool true] 83)
    · exact (Below.heap_alloc _ _ _ (by simp)).trans (heap_alloc_new w _)
    · intro h; have := D.lt _ _ _ hJ ((hf _).1 h); omega
    · intro g hg h
      obtain rfl := Option.some.inj hg
      have := D.lt _ _ _ hJ ((hf _).1 h)
      simp only at this
      omega
    · intro x hx; simp at hx; subst hx; decide
  obtain ⟨R, hR⟩ : ∃ R, wkF lk rootW l = R := ⟨_, rfl⟩
  obtain ⟨QA, hQA⟩ : ∃ Q, qs0 ++ wkA lk rootW l = Q := ⟨_, rfl⟩
  have HR1 := Lib.hid hR
  have HQ1 := Lib.hid hQA
  rw [hR, hQA]
  clear h3 h2 D hnm hJ hn hR hQA hro
  obtain ⟨R1, R2⟩ := R
  obtain ⟨R0, R1⟩ := R1
  simp only
  go_enter Tryd.func44, Tryd.ntmps44
  go_wp2_with fail
  go_step3
  go_wp2_with fail
  go_step3
  go_wp2_with fail
  go_loopw [6, 16] (fun v6 v16 wr => ∃ k : Nat, k ≤ n ∧ v16 = .int .i64 k ∧ Hid (∃ qs pre z, WkB w J fp ro k qs pre z v6 wr ∧ wkF lk (pre ++ [z]) (l.drop k) = ((R0, R1), R2) ∧ qs ++ wkA lk (pre ++ [z]) (l.drop k) = QA)) (fun _ v16 _ => n - (intOf v16).toNat)
  case atStart => exact ⟨0, by omega, rfl, Lib.hid ⟨_, [], (1, true), HS0.out, HR1.out, HQ1.out⟩⟩
  case round =>
    clear HS0 HR1 HQ1
    obtain ⟨k, hk, rfl, HX⟩ := hrel
    obtain ⟨qs, pre, ⟨z1, z2⟩, hB, hF, hA⟩ := HX.out
    clear HX
    obtain ⟨g, cap, rfl, hgw, hgs, hpc, hcap, c0, c1⟩ := hB.last
    have hcap2 : cap ≤ 9223372036854775807 := maxLen_eq ▸ hcap
    have hpl := hB.len
    clear hcap
    simp only at c0 c1
    have b0 : wr.cell? ⟨w.heap.size, 0, none⟩ = some (.int .i64 0) := by rw [cell_of_row _ _ _ _ _ _ hB.box]; rfl
    have b1 : wr.cell? ⟨w.heap.size, 1, none⟩ = some (.bool false) := by rw [cell_of_row _ _ _ _ _ _ hB.box]; rfl
    have f0 : wr.frozen? ⟨w.heap.size, 0, none⟩ = false := frozen_of_row _ _ 0 _ _ hB.box
    have f1 : wr.frozen? ⟨w.heap.size, 1, none⟩ = false := frozen_of_row _ _ 1 _ _ hB.box
    have hbl := heap_lt hB.box
    have HB := Lib.hid hB
    by_cases hlt : k < n
    · obtain ⟨b, off, rfl, hbw, hh⟩ := HR.out (by rw [HL.out]; omega)
      obtain ⟨s, hs⟩ : ∃ s, l[k]? = some s := ⟨_, List.getElem?_eq_getElem (by rw [HL.out]; exact hlt)⟩
      have hdr : l.drop k = s :: l.drop (k + 1) := by
        have := List.getElem?_eq_some_iff.1 hs
        rw [List.drop_eq_getElem_cons this.1, this.2]
      rw [hdr] at hF hA
      have d0 := cell_chg hB.chg (hh k s hs) (HRO.out b off _ c (by rw [HL.out]))
      have hns : s.size ≤ maxLen := HN.out s (List.mem_of_getElem? hs)
      clear hh hs hdr
      rcases hz : z2 with _ | _
      · subst hz
        rw [(wk_dir (lk := lk) (pre := pre) (z := (z1, false)) (s := s) (r := l.drop (k + 1)) rfl).1] at hF
        rw [(wk_dir (lk := lk) (pre := pre) (z := (z1, false)) (s := s) (r := l.drop (k + 1)) rfl).2, List.append_nil] at hA
        injection hF with hF1 hF2
        injection hF1 with hF1 hF3
        subst hF1 hF2 hF3 hA
        clear hB
        go_wp2_with fail
        rw [Exit.noGoto_ret]
        obtain ⟨k0, k1⟩ := set_two _ _ (.int .i64 0) (.bool false) _ _ _ HB.out.box
        refine bodyPost_ret (walk_res rfl rfl (cell_below ((Below.refl _ _).alloc (Nat.le_refl _) _) k0) (cell_below ((Below.refl _ _).alloc (Nat.le_refl _) _) k1)) rfl ?_
        refine ⟨rfl, wk_fin HB.out HD.out ?_⟩
        exact (((Chg.refl (fun b => b = w.heap.size) wr).setCell (p := ⟨w.heap.size, 0, none⟩) (fun _ => rfl) _).setCell (p := ⟨w.heap.size, 1, none⟩) (fun _ => rfl) _).alloc _
      · subst hz
        by_cases hs1 : s = dot1
        · subst hs1
          rw [(wk_here (lk := lk) (pre := pre) (z := (z1, true)) (r := l.drop (k + 1)) rfl).1] at hF
          rw [(wk_here (lk := lk) (pre := pre) (z := (z1, true)) (r := l.drop (k + 1)) rfl).2] at hA
          have HX := Lib.hid (fun o => (show ∃ qs pre1 z, WkB w J fp ro (k + 1) qs pre1 z (.slice (some ⟨g, 0, none⟩) (pre.length + 1) cap) (wr.alloc o) ∧ wkF lk (pre1 ++ [z]) (l.drop (k + 1)) = ((R0, R1), R2) ∧ qs ++ wkA lk (pre1 ++ [z]) (l.drop (k + 1)) = QA from
            ⟨_, _, _, ((HB.out.below HD.out ((Below.refl _ _).alloc (Nat.le_refl _) o)).next), hF, hA⟩))
          clear hF hA hB
          unfold dot1 at d0
          go_wp2_with fail
          all_goals exact ⟨⟨k + 1, by omega, by go_num, Lib.hid (HX.out _)⟩, by simp [intOf]; omega⟩
        · by_cases hs2 : s = dot2
          · subst hs2
            rw [(wk_up (lk := lk) (pre := pre) (z := (z1, true)) (r := l.drop (k + 1)) rfl).1] at hF
            rw [(wk_up (lk := lk) (pre := pre) (z := (z1, true)) (r := l.drop (k + 1)) rfl).2] at hA
            obtain ⟨pre', z', e1, e2, hB2⟩ := hB.up
            rw [e1] at hF hA
            have HX := Lib.hid (fun o => (show ∃ qs pre1 z, WkB w J fp ro (k + 1) qs pre1 z (.slice (some ⟨g, 0, none⟩) (if (1 : Int) < pre.length then (pre.length : Int) else 1).toNat cap) (wr.alloc o) ∧ wkF lk (pre1 ++ [z]) (l.drop (k + 1)) = ((R0, R1), R2) ∧ qs ++ wkA lk (pre1 ++ [z]) (l.drop (k + 1)) = QA from
              ⟨_, _, _, (by rw [show (if (1 : Int) < pre.length then (pre.length : Int) else 1).toNat = max 1 pre.length by split <;> omega]; exact hB2.below HD.out ((Below.refl _ _).alloc (Nat.le_refl _) o)), hF, hA⟩))
            clear hF hA hB hB2 e1 e2
            unfold dot2 at d0
            go_wp2_with fail
            all_goals exact ⟨⟨k + 1, by omega, by go_num, Lib.hid (HX.out _)⟩, by simp [intOf]; omega⟩
          · have e1 : (s.toList == [46]) = false := ne_lit hs1
            have e2 : (s.toList == [46, 46]) = false := ne_lit hs2
            have HC := HD.out.look qs (wr.alloc (.cells #[.int .i64 z1, .bool true] 83)) z1 s (HB.out.below HD.out ((Below.refl _ _).alloc (Nat.le_refl _) _)).j (HB.out.wfz (z1, true) (by simp)) hns
            have HLK := Lib.hid HC
            have hwfl := HD.out.wf z1 s
            have HW2 := Lib.hid (wk_none (lk := lk) (pre := pre) (z := (z1, true)) (s := s) (r := l.drop (k + 1)) rfl hs1 hs2)
            have HW3 := Lib.hid (wk_name (lk := lk) (pre := pre) (z := (z1, true)) (s := s) (r := l.drop (k + 1)) rfl hs1 hs2)
            have HF := Lib.hid hF
            have HA := Lib.hid hA
            clear hB HC hF hA hs1 hs2 hns
            have HWF := Lib.hid hwfl
            clear hwfl
            obtain ⟨X, hX⟩ : ∃ X, lk z1 s = X := ⟨_, rfl⟩
            simp only at HW2 HW3
            rw [hX] at HLK HW2 HW3 HWF
            clear hX
            obtain ⟨x1, x2⟩ := X
            go_wp2_with fail
            refine HLK.out.mono ?_
            rintro e W1 ⟨rfl, hj1, hc1, hn1⟩
            have HB1 := Lib.hid ((HB.out.below HD.out ((Below.refl _ _).alloc (Nat.le_refl _) (.cells #[.int .i64 z1, .bool true] 83))).looked hj1 hc1 hn1)
            clear hj1 hc1 hn1
            have b0' : W1.cell? ⟨w.heap.size, 0, none⟩ = some (.int .i64 0) := by rw [cell_of_row _ _ _ _ _ _ HB1.out.box]; rfl
            have b1' : W1.cell? ⟨w.heap.size, 1, none⟩ = some (.bool false) := by rw [cell_of_row _ _ _ _ _ _ HB1.out.box]; rfl
            have f0' : W1.frozen? ⟨w.heap.size, 0, none⟩ = false := frozen_of_row _ _ 0 _ _ HB1.out.box
            have f1' : W1.frozen? ⟨w.heap.size, 1, none⟩ = false := frozen_of_row _ _ 1 _ _ HB1.out.box
            clear b0 b1 f0 f1 c0 c1 d0
            by_cases hx1 : x1 < 1
            · go_wp2_with fail
              obtain ⟨y1, y2⟩ := HW2.out hx1
              have hF := HF.out
              have hA := HA.out
              rw [y1] at hF
              rw [y2] at hA
              injection hF with hF1 hF2
              injection hF1 with hF1 hF3
              subst hF1 hF2 hF3 hA
              rw [Exit.noGoto_ret]
              obtain ⟨k0, k1⟩ := set_two _ _ (.int .i64 0) (.bool false) _ _ _ HB1.out.box
              refine bodyPost_ret (walk_res rfl rfl k0 k1) rfl ?_
              exact ⟨rfl, wk_fin HB1.out HD.out (((Chg.refl (fun b => b = w.heap.size) W1).setCell (p := ⟨w.heap.size, 0, none⟩) (fun _ => rfl) _).setCell (p := ⟨w.heap.size, 1, none⟩) (fun _ => rfl) _)⟩
            · have hbase : w.heap.size + 1 ≤ W1.heap.size := heap_lt HB1.out.box
              go_wp2_with (at_builtin; refine wpList_append_own_at _ rfl _ _ 98 rfl (w.heap.size + 1) 83 i0 (.agg #[.int .i64 0, .bool false]) 2 16 Tryd.underlying98 hi hz0 hz1 hz2 rfl (by decide) _ (pre.length + 1) _ rfl (HB1.out.row.alloc _) ⟨W1.heap.size, 0, none⟩ 1 1 [.int .i64 x1, .bool x2] rfl rfl (World.news_of_block (cs := #[.int .i64 x1, .bool x2]) (t := 83) (fr := (0, 0)) (heap_alloc_new W1 _)) (by simp [Value.oneCell']) (by rw [maxLen_eq]; omega) (by omega) (by simp; omega) ?_; intro v2 W2 hown2 hg2 hiff hloc)
              have HB2 := Lib.hid (HB1.out.push (x := (x1, x2)) HD.out HWF.out hown2 hg2 (hloc.elim .inl (fun e => .inr ⟨_, e, by simp⟩)))
              clear hown2 hg2 hiff hloc
              go_wp2_with fail
              go_roundw
              case rel =>
                obtain ⟨y1, y2⟩ := HW3.out hx1
                exact ⟨k + 1, by omega, by go_num, Lib.hid ⟨_, _, _, HB2.out, by rw [← y1]; exact HF.out, by rw [← HA.out, y2]; simp⟩⟩
              case measure => simp [intOf]; omega
    · obtain rfl : k = n := by omega
      rw [List.drop_eq_nil_of_le (by rw [HL.out]; exact Nat.le_refl _)] at hF hA
      rw [wk_end.1] at hF
      rw [wk_end.2, List.append_nil] at hA
      injection hF with hF1 hF2
      injection hF1 with hF1 hF3
      subst hF1 hF2 hF3 hA
      clear hB
      go_wp2_with fail
      rw [Exit.noGoto_ret]
      obtain ⟨k0, k1⟩ := set_two _ _ (.int .i64 z1) (.bool z2) _ _ _ HB.out.box
      refine bodyPost_ret (walk_res rfl rfl k0 k1) rfl ?_
      exact ⟨rfl, wk_fin HB.out HD.out (((Chg.refl (fun b => b = w.heap.size) wr).setCell (p := ⟨w.heap.size, 0, none⟩) (fun _ => rfl) _).setCell (p := ⟨w.heap.size, 1, none⟩) (fun _ => rfl) _)⟩

end Go.Proofs.YtpombeiabgbpiaaDoor
