/-
strings.SplitSeq at a slash: the iterator hands on the text's fragments.
-/
import Derived.Test.YtpombeiabgbpiaaDoorWBuild
import Derived.Test.YtpombeiabgbpiaaDoorQIter
import Derived.Lib.IndexLaws
import Derived.RangeFuncNested
import Derived.RangeFuncBound
import Derived.RangeFuncCalls
import Derived.RangeFuncLeaves
import Derived.Shelf.Abstract
import Derived.Shelf.RegionOpen
import Derived.OwnWalkIn
import Derived.TacticsInMore
import Derived.LoopNIn
import Derived.LoopIn
namespace Go.Proofs.YtpombeiabgbpiaaDoor
open Go.RowKit Go.Shelf
attribute [local go_sem] Oper.semAt_some

/-- the first slash, or nothing -/
theorem slash_at (s : ByteArray) : Lib.indexByte (bys s) 47 = -1 ∨ ∃ i : Nat, Lib.indexByte (bys s) 47 = i ∧ i < s.size := by
  have h := Lib.indexByte_ge (bys s) 47
  by_cases e : Lib.indexByte (bys s) 47 = -1
  · exact .inl e
  · right
    obtain ⟨i, hi⟩ : ∃ i : Nat, Lib.indexByte (bys s) 47 = i := ⟨(Lib.indexByte (bys s) 47).toNat, by omega⟩
    have := (List.getElem?_eq_some_iff.1 (Lib.indexByte_some hi).1).1
    rw [bys_length] at this
    exact ⟨i, hi, this⟩

/-- a text's fragments between slashes (n: at least its length) -/
def frs : Nat → ByteArray → List ByteArray
  | 0, s => [s]
  | n + 1, s => if Lib.indexByte (bys s) 47 = -1 then [s] else s.extract 0 (Lib.indexByte (bys s) 47).toNat :: frs n (s.extract ((Lib.indexByte (bys s) 47).toNat + 1) s.size)
theorem frs_end {n : Nat} {s : ByteArray} (h : Lib.indexByte (bys s) 47 = -1) : frs n s = [s] := by
  cases n with
  | zero => rfl
  | succ n => unfold frs; rw [if_pos h]
theorem frs_more {n i : Nat} {s : ByteArray} (h : Lib.indexByte (bys s) 47 = i) : frs (n + 1) s = s.extract 0 i :: frs n (s.extract (i + 1) s.size) := by
  show (if _ then _ else _) = _
  rw [if_neg (by omega), h]
  rfl

/-- how long the text in a variable is -/
def szAt (b : Nat) (w : World) : Nat := match w.cell? ⟨b, 0, none⟩ with
  | some (.string u) => u.size
  | _ => 0

/-- the closure's three variables -/
structure SpBox (bs bp bv : Nat) (u : ByteArray) (w : World) : Prop where
  s : w.cell? ⟨bs, 0, none⟩ = some (.string u)
  f : w.frozen? ⟨bs, 0, none⟩ = false
  p : w.cell? ⟨bp, 0, none⟩ = some (.string ⟨#[47]⟩)
  v : w.cell? ⟨bv, 0, none⟩ = some (.int .i64 0)
  ne : bs ≠ bp ∧ bs ≠ bv
theorem SpBox.kept {bs bp bv : Nat} {u : ByteArray} {w w' : World} (h : SpBox bs bp bv u w) (hk : KeptIn (fun b => b = bs ∨ b = bp ∨ b = bv) w w') : SpBox bs bp bv u w' := by
  have e1 := hk bs (.inl rfl)
  have e2 := hk bp (.inr (.inl rfl))
  have e3 := hk bv (.inr (.inr rfl))
  exact ⟨by rw [← h.s]; unfold World.cell?; rw [e1], by rw [← h.f]; unfold World.frozen?; rw [e1], by rw [← h.p]; unfold World.cell?; rw [e2], by rw [← h.v]; unfold World.cell?; rw [e3], h.ne⟩
theorem SpBox.set {bs bp bv : Nat} {u : ByteArray} {w : World} (h : SpBox bs bp bv u w) (u' : ByteArray) : SpBox bs bp bv u' (w.setCell ⟨bs, 0, none⟩ (.string u')) :=
  ⟨World.cell?_setCell_same _ _ _ h.s, by rw [World.frozen?_setCell]; exact h.f, (World.cell?_setCell_other _ _ _ _ (fun e => h.ne.1 (by injection e))).trans h.p, (World.cell?_setCell_other _ _ _ _ (fun e => h.ne.2 (by injection e))).trans h.v, h.ne⟩
theorem SpBox.below {bs bp bv : Nat} {u : ByteArray} {w w' : World} (h : SpBox bs bp bv u w) (hb : Below w.heap.size w w') : SpBox bs bp bv u w' := by
  have e : ∀ (b : Nat) (v : Value), w.cell? ⟨b, 0, none⟩ = some v → w'.cell? ⟨b, 0, none⟩ = some v := fun b v hv => (hb.cell (World.block_lt_of_cell? w _ hv)).trans hv
  refine ⟨e _ _ h.s, ?_, e _ _ h.p, e _ _ h.v, h.ne⟩
  have := hb.block bs (World.block_lt_of_cell? w _ h.s)
  rw [← h.f]; unfold World.frozen?; rw [this]

set_option maxRecDepth 100000 in
set_option maxHeartbeats 2000000 in
theorem seq_gives (w : World) (bs bp bv : Nat) (s : ByteArray) (h : SpBox bs bp bv s w) (hsz : s.size ≤ 200) (n : Nat) :
    Gives Fence.wide n Tryd.prog 59 #[.pointer (some ⟨bp, 0, none⟩), .pointer (some ⟨bs, 0, none⟩), .pointer (some ⟨bv, 0, none⟩)] (fun x : ByteArray => #[.string x]) bs (fun b => b = bs ∨ b = bp ∨ b = bv) (frs s.size s) w := by
  intro l J Jx W hW hJs hJxs hY hJ
  have HB0 := Lib.hid (h.below hW)
  have HJs := Lib.hid hJs
  have HY := Lib.hid hY
  have HJ := Lib.hid hJ
  obtain ⟨xs, hxs⟩ : ∃ xs, frs s.size s = xs := ⟨_, rfl⟩
  rw [hxs] at HY ⊢
  have HXS := Lib.hid hxs
  clear hJs hY hJ h hxs
  refine callsIn_of_wp Tryd.func59 rfl trivial ?_ rfl
  simp only [Tryd.ntmps59, List.size_toArray, List.length_cons, List.length_nil, Nat.reduceAdd, Nat.reduceSub, Array.replicate_succ, Array.replicate_zero, List.push_toArray, List.append_toArray, List.nil_append, List.cons_append]
  have z1 := HB0.out.p
  gi_wp2
  gi_loopw [7, 8] (fun _ _ wr => ∃ (pre : List ByteArray) (u : ByteArray) (m : Nat), Hid (J pre wr ∧ pre ++ frs m u = xs ∧ u.size ≤ m ∧ SpBox bs bp bv u wr ∧ W.heap.size ≤ wr.heap.size ∧ u.size ≤ 200)) (fun _ _ wr => szAt bs wr)
  case atStart => exact ⟨[], s, s.size, HJ.out, HXS.out, Nat.le_refl _, HB0.out, Nat.le_refl _, hsz⟩
  case round =>
    obtain ⟨pre, u, m, HS⟩ := hrel
    have c1 := HS.out.2.2.2.1.s
    have c2 := HS.out.2.2.2.1.p
    have c3 := HS.out.2.2.2.1.v
    have c4 := HS.out.2.2.2.1.f
    have hu2 := HS.out.2.2.2.2.2
    rcases slash_at u with hi | ⟨i, hi, hlt⟩
    · have HIX := Lib.hid (Tryd.strings_Index_one u 47 wr)
      rw [hi] at HIX
      obtain ⟨fn, tmps, assign, body, hy, hR⟩ := HY.out pre u wr HS.out.1 (by rw [← HS.out.2.1, frs_end hi]; exact List.prefix_refl _) HS.out.2.2.2.2.1
      try dsimp only at hy
      gi_wp2
      refine ⟨trivial, fun h => (by cases h), ?_⟩
      refine (callsIn_wide.2 HIX.out).mono ?_
      rintro e w' ⟨rfl, rfl⟩
      gi_wp2
      refine ⟨fun h => (by cases h), ?_⟩
      refine hR.mono ?_
      have HFR := Lib.hid (show pre ++ [u] = xs by rw [← HS.out.2.1, frs_end hi])
      clear hR hy HS HIX hi
      rintro e W' (⟨rfl, hJ', _, _⟩ | ⟨rfl, hJx⟩)
      · have HT := Lib.hid hJ'
        clear hJ'
        gi_wp2
        go_end0
        exact ⟨⟨_, rfl⟩, .inl (by rw [← HFR.out]; exact HT.out)⟩
      · have HT := Lib.hid hJx
        clear hJx
        gi_wp2
        go_end0
        exact ⟨⟨_, rfl⟩, .inr ⟨_, by rw [HFR.out]; exact List.prefix_refl _, HT.out⟩⟩
    · obtain ⟨m', rfl⟩ : ∃ m', m = m' + 1 := ⟨m - 1, by have := HS.out.2.2.1; omega⟩
      have HIX := Lib.hid (Tryd.strings_Index_one u 47 wr)
      rw [hi] at HIX
      have hfr : pre ++ (u.extract 0 i :: frs m' (u.extract (i + 1) u.size)) = xs := by rw [← HS.out.2.1, frs_more hi]
      obtain ⟨fn, tmps, assign, body, hy, hR⟩ := HY.out pre (u.extract 0 i) wr HS.out.1 (⟨frs m' (u.extract (i + 1) u.size), by rw [← hfr, List.append_assoc]; rfl⟩) HS.out.2.2.2.2.1
      have HFR := Lib.hid hfr
      clear hfr hi
      gi_wp2
      refine ⟨trivial, fun h => (by cases h), ?_⟩
      refine (callsIn_wide.2 HIX.out).mono ?_
      rintro e w' ⟨rfl, rfl⟩
      clear HIX
      gi_wp2
      refine ⟨fun h => (by cases h), ?_⟩
      refine hR.mono ?_
      clear hR hy
      rintro e W' (⟨rfl, hJ', hz', hk'⟩ | ⟨rfl, hJx⟩)
      · have HT := Lib.hid hJ'
        have hB2 := HS.out.2.2.2.1.kept hk'
        have HZ := Lib.hid (Nat.le_trans HS.out.2.2.2.2.1 hz')
        have HM := Lib.hid HS.out.2.2.1
        have d1 := hB2.s
        have d2 := hB2.p
        have d3 := hB2.v
        have d4 := hB2.f
        have HB2 := Lib.hid hB2
        have HSZ := Lib.hid (show szAt bs w' = u.size by unfold szAt; rw [c1])
        clear hJ' hk' hB2 HS c1 c2 c3 c4 hz'
        gi_wp2
        have hes : (u.extract (i + 1) u.size).size = u.size - (i + 1) := by simp
        have hm := HM.out
        refine ⟨⟨pre ++ [u.extract 0 i], u.extract (i + 1) u.size, m', HJs.out _ _ _ HT.out ((But.refl _ _).setCell _ _), by rw [← HFR.out, List.append_assoc]; rfl, by omega, HB2.out.set _, by simpa using HZ.out, by omega⟩, ?_⟩
        have e := (HB2.out.set (u.extract (i + 1) u.size)).s
        rw [HSZ.out]
        unfold szAt
        rw [e]
        show (u.extract (i + 1) u.size).size < u.size
        omega
      · have HT := Lib.hid hJx
        clear hJx HS
        gi_wp2
        go_returns
        exact ⟨⟨_, rfl⟩, .inr ⟨_, ⟨frs m' (u.extract (i + 1) u.size), by rw [← HFR.out, List.append_assoc]; rfl⟩, HT.out⟩⟩

/-- SplitSeq's three boxes and its closure -/
theorem split_any (w : World) (s : ByteArray) : Calls Tryd.prog 37 #[.string s, .string ⟨#[47]⟩] w fun e w' => e = .returned (.func (.func 59) #[] #[.pointer (some ⟨w.heap.size + 1, 0, none⟩), .pointer (some ⟨w.heap.size, 0, none⟩), .pointer (some ⟨w.heap.size + 1 + 1, 0, none⟩)]) ∧
    w' = ((w.alloc (.cells #[.string s] 9)).alloc (.cells #[.string ⟨#[47]⟩] 9)).alloc (.cells #[.int .i64 0] 3) := by
  have H : Hid (Calls Tryd.prog 54 #[.string s, .string ⟨#[47]⟩, .int .i64 0] w fun e w' => e = .returned (.func (.func 59) #[] #[.pointer (some ⟨w.heap.size + 1, 0, none⟩), .pointer (some ⟨w.heap.size, 0, none⟩), .pointer (some ⟨w.heap.size + 1 + 1, 0, none⟩)]) ∧
      w' = ((w.alloc (.cells #[.string s] 9)).alloc (.cells #[.string ⟨#[47]⟩] 9)).alloc (.cells #[.int .i64 0] 3)) := by
    unfold Hid
    go_enter Tryd.func54, Tryd.ntmps54
    go_wp2_with fail
    go_ret
    exact ⟨rfl, rfl⟩
  go_enter Tryd.func37, Tryd.ntmps37
  go_wp2_with fail
  refine H.out.mono ?_
  rintro e w' ⟨rfl, rfl⟩
  go_wp2_with fail
  go_ret
  exact ⟨rfl, rfl⟩
theorem SpBox.new (w : World) (s : ByteArray) : SpBox w.heap.size (w.heap.size + 1) (w.heap.size + 1 + 1) s (((w.alloc (.cells #[.string s] 9)).alloc (.cells #[.string ⟨#[47]⟩] 9)).alloc (.cells #[.int .i64 0] 3)) := by
  refine ⟨?_, ?_, ?_, ?_, by omega, by omega⟩
  · rw [World.cell?_alloc_past _ _ _ (by simp; omega), World.cell?_alloc_past _ _ _ (by simp)]; exact World.cell?_alloc_at _ _ _ _ rfl
  · rw [World.frozen?_alloc_past _ _ _ (by simp; omega), World.frozen?_alloc_past _ _ _ (by simp)]; exact World.frozen?_alloc_at _ _ _ _ rfl
  · rw [World.cell?_alloc_past _ _ _ (by simp)]; exact World.cell?_alloc_at _ _ _ _ (by simp)
  · exact World.cell?_alloc_at _ _ _ _ (by simp)

end Go.Proofs.YtpombeiabgbpiaaDoor
