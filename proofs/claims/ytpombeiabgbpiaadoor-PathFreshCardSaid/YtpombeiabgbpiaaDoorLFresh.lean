/-
PathFresh: what is answered is new memory.
-/
import Derived.Test.YtpombeiabgbpiaaDoorWFresh
import Derived.Test.YtpombeiabgbpiaaDoorWPlays
import Derived.Test.YtpombeiabgbpiaaDoorWSame
import Derived.Test.YtpombeiabgbpiaaDoorWDots
import Derived.ArgAppend
import Derived.Deep.CutRange
namespace Go.Proofs.YtpombeiabgbpiaaDoor
open Go.RowKit

abbrev fMark : ByteArray := ⟨#[109, 97, 114, 107]⟩
abbrev fMore : ByteArray := ⟨#[109, 111, 114, 101]⟩
theorem pbox {W : World} {b : Nat} {u : Value} {sl : Bool} (h : W.heap[b]? = some (.cells #[u, .bool sl] 25 (0, 0))) : W.cell? ⟨b, 0, none⟩ = some u ∧ W.cell? ⟨b, 1, none⟩ = some (.bool sl) ∧ W.frozen? ⟨b, 0, none⟩ = false ∧ b < W.heap.size :=
  ⟨by rw [cell_of_row _ _ _ _ _ _ h]; rfl, by rw [cell_of_row _ _ _ _ _ _ h]; rfl, frozen_of_row _ _ _ _ _ h, heap_lt h⟩
/-- a path in a variable, its parts in a row of lo or later -/
structure PV (lo b : Nat) (v : Value) (sb : Bool) (l : List ByteArray) (W : World) : Prop where
  bx : W.heap[b]? = some (.cells #[v, .bool sb] 25 (0, 0))
  rd : RdS W v l
  hv : ∀ b off n c, v = .slice (some ⟨b, off, none⟩) n c → lo ≤ b
  hb : lo ≤ b
theorem PV.below {lo b : Nat} {v : Value} {sb : Bool} {l : List ByteArray} {W W' : World} (h : PV lo b v sb l W) (hb : Below W.heap.size W W') : PV lo b v sb l W' := ⟨(hb.block _ (heap_lt h.bx)).trans h.bx, h.rd.below hb, h.hv, h.hb⟩
theorem PV.chg {D : Nat → Prop} {lo b : Nat} {v : Value} {sb : Bool} {l : List ByteArray} {W W' : World} (h : PV lo b v sb l W) (hc : Chg D W W') (hd : ∀ b, lo ≤ b → ¬ D b) : PV lo b v sb l W' :=
  ⟨hc.heap h.bx (hd _ h.hb), h.rd.chg hc (fun b off n c e => hd b (h.hv b off n c e)), h.hv, h.hb⟩
theorem PV.low {lo lo' b : Nat} {v : Value} {sb : Bool} {l : List ByteArray} {W : World} (h : PV lo b v sb l W) (hl : lo' ≤ lo) : PV lo' b v sb l W := ⟨h.bx, h.rd, fun b off n c e => Nat.le_trans hl (h.hv b off n c e), Nat.le_trans hl h.hb⟩
/-- what Parse answers: a row of its own -/
theorem PaPost.own {w w' : World} {t : ByteArray} {e : Ending} (h : PaPost w t e w') :
    ∃ (A : Option Addr) (m c : Nat), e = .returned (.tuple #[.agg #[.slice A m c, .bool (pB t)], .int .i64 (errOf t)]) ∧ w'.ownsRow w.heap.size 9 1 (.slice A m c) m ((pL t).map vS) ∧ Nz (.slice A m c) ∧ Below w.heap.size w w' := by
  obtain ⟨hb, hp⟩ := h
  by_cases h0 : errOf t = 0
  · rw [if_pos h0] at hp
    obtain ⟨v, rfl, ho⟩ := hp
    obtain ⟨A, c, rfl⟩ := own_form ho
    unfold pB pL
    rw [if_pos h0, if_pos h0, h0]
    exact ⟨A, _, c, rfl, ho, Nz.of_own ho, hb⟩
  · rw [if_neg h0] at hp
    unfold pB pL
    rw [if_neg h0, if_neg h0]
    exact ⟨_, _, _, hp, World.ownsRow_nil _ _ _ _, nz_nil, hb⟩

/-- the two other readings, and what was handed in -/
structure FrS (W0 : World) (nW lo b7 b9 : Nat) (vr vk : Value) (b : Bool) (P : List ByteArray) (X : World) : Prop where
  q : Below nW W0 X
  r : PV (lo + 1) b7 vr b P X
  k : PV (lo + 1) b9 vk b P X
theorem FrS.below {W0 : World} {nW lo b7 b9 : Nat} {vr vk : Value} {b : Bool} {P : List ByteArray} {X X' : World} (h : FrS W0 nW lo b7 b9 vr vk b P X) (hn : nW ≤ W0.heap.size) (hb : Below X.heap.size X X') : FrS W0 nW lo b7 b9 vr vk b P X' :=
  ⟨below_up hn h.q hb, h.r.below hb, h.k.below hb⟩
theorem FrS.chg {D : Nat → Prop} {W0 : World} {nW lo b7 b9 : Nat} {vr vk : Value} {b : Bool} {P : List ByteArray} {X X' : World} (h : FrS W0 nW lo b7 b9 vr vk b P X) (hn : nW ≤ X.heap.size) (hc : Chg D X X') (hd : ∀ b, D b → nW ≤ b ∧ b ≤ lo) : FrS W0 nW lo b7 b9 vr vk b P X' :=
  ⟨h.q.trans (hc.below _ hn (fun b hb k => by have := (hd b k).1; omega)), h.r.chg hc (fun b hb k => by have := (hd b k).2; omega), h.k.chg hc (fun b hb k => by have := (hd b k).2; omega)⟩
/-- the first reading, appended to; and its row as it was -/
structure FrT (Ap : Option Addr) (m lo : Nat) (v : Value) (b : Bool) (X : World) : Prop where
  bx : X.heap[lo]? = some (.cells #[v, .bool b] 25 (0, 0))
  new : ∃ g c, v = .slice (some ⟨g, 0, none⟩) (m + 1) c ∧ m + 1 ≤ c ∧ c ≤ 9223372036854775807 ∧ g < X.heap.size ∧ ∀ j, j < m → X.cell? ⟨g, j, none⟩ = some (.string fMark)
  old : m = 0 ∨ ∃ gp, Ap = some ⟨gp, 0, none⟩ ∧ gp < X.heap.size ∧ ∀ j, j < m → X.cell? ⟨gp, j, none⟩ = some (.string fMark)
theorem FrT.below {Ap : Option Addr} {m lo : Nat} {v : Value} {b : Bool} {X X' : World} (h : FrT Ap m lo v b X) (hb : Below X.heap.size X X') : FrT Ap m lo v b X' := by
  obtain ⟨bx, ⟨g, c, e, k1, k2, k3, k4⟩, old⟩ := h
  refine ⟨(hb.block _ (heap_lt bx)).trans bx, ⟨g, c, e, k1, k2, Nat.lt_of_lt_of_le k3 hb.size, fun j hj => (hb.cell k3).trans (k4 j hj)⟩, ?_⟩
  rcases old with h | ⟨gp, a, b, c⟩
  · exact .inl h
  · exact .inr ⟨gp, a, Nat.lt_of_lt_of_le b hb.size, fun j hj => (hb.cell b).trans (c j hj)⟩
/-- the first reading's row: i marks -/
def FrRow (Ap : Option Addr) (m cp nW lo i : Nat) (X : World) : Prop :=
  (Ap = none ∧ m = 0 ∧ cp = 0) ∨ ∃ (gp : Nat) (cur : Array Value), Ap = some ⟨gp, 0, none⟩ ∧ nW ≤ gp ∧ gp < lo ∧ X.heap[gp]? = some (.cells cur 9 (0, 0)) ∧ cur.size = cp ∧ m ≤ cp ∧ cp ≤ maxLen ∧ ∀ j, j < i → cur[j]? = some (.string fMark)
theorem FrRow.of_own {W : World} {B m cp lo nW : Nat} {Ap : Option Addr} {xs : List Value} (h : W.ownsRow B 9 1 (.slice Ap m cp) m xs) (hB : nW ≤ B) (hlo : W.heap.size = lo) : FrRow Ap m cp nW lo 0 W := by
  rcases h.2 with ⟨e, h0⟩ | ⟨g, cap, cur, e, hb, hg, h1, h2, h3, _⟩
  · injection e with e1 e2 e3
    exact .inl ⟨e1, e2, e3⟩
  · injection e with e1 _ e3
    subst e3
    exact .inr ⟨g, cur, e1, by omega, by rw [← hlo]; exact heap_lt hg, hg, by simpa using h3, h1, h2, fun j hj => by omega⟩
theorem FrRow.below {Ap : Option Addr} {m cp nW lo i : Nat} {X X' : World} (h : FrRow Ap m cp nW lo i X) (hb : Below X.heap.size X X') : FrRow Ap m cp nW lo i X' := by
  rcases h with h | ⟨gp, cur, a, b, c, d, e⟩
  · exact .inl h
  · exact .inr ⟨gp, cur, a, b, c, (hb.block _ (heap_lt d)).trans d, e⟩

abbrev fOther : ByteArray := ⟨#[111, 116, 104, 101, 114]⟩
abbrev fLast : ByteArray := ⟨#[108, 97, 115, 116]⟩
abbrev fThird : ByteArray := ⟨#[116, 104, 105, 114, 100]⟩
theorem RdS.chg0 {D : Nat → Prop} {w w' : World} {v : Value} {l : List ByteArray} (h : RdS w v l) (hc : Chg D w w') (hn : ∀ b off n c, v = .slice (some ⟨b, off, none⟩) n c → 0 < l.length → ¬ D b) : RdS w' v l := by
  obtain ⟨A, c, rfl, h1, h2, h3⟩ := h
  refine ⟨A, c, rfl, h1, h2, fun h0 => ?_⟩
  obtain ⟨b, off, rfl, hb, hh⟩ := h3 h0
  exact ⟨b, off, rfl, Nat.lt_of_lt_of_le hb hc.size, fun i s hs => cell_chg hc (hh i s hs) (hn b off _ c rfl h0)⟩
/-- a path in a variable, all of it between two marks -/
structure PW (lo hi b : Nat) (v : Value) (sb : Bool) (l : List ByteArray) (W : World) : Prop where
  bx : W.heap[b]? = some (.cells #[v, .bool sb] 25 (0, 0))
  rd : RdS W v l
  hv : ∀ b off n c, v = .slice (some ⟨b, off, none⟩) n c → 0 < l.length → lo ≤ b ∧ b < hi
  hb : lo ≤ b ∧ b < hi
theorem PW.below {lo hi b : Nat} {v : Value} {sb : Bool} {l : List ByteArray} {W W' : World} (h : PW lo hi b v sb l W) (hb : Below W.heap.size W W') : PW lo hi b v sb l W' := ⟨(hb.block _ (heap_lt h.bx)).trans h.bx, h.rd.below hb, h.hv, h.hb⟩
theorem PW.chg {D : Nat → Prop} {lo hi b : Nat} {v : Value} {sb : Bool} {l : List ByteArray} {W W' : World} (h : PW lo hi b v sb l W) (hc : Chg D W W') (hd : ∀ b, D b → b < lo ∨ hi ≤ b) : PW lo hi b v sb l W' :=
  ⟨hc.heap h.bx (fun k => by have := hd _ k; have := h.hb; omega), h.rd.chg0 hc (fun b off n c e h0 k => by have := hd _ k; have := h.hv b off n c e h0; omega), h.hv, h.hb⟩
theorem PW.new {lo : Nat} {w : World} {v : Value} {sb : Bool} {l : List ByteArray} (hr : RdS w v l) (hv : ∀ b off n c, v = .slice (some ⟨b, off, none⟩) n c → lo ≤ b) (hlo : lo ≤ w.heap.size) : PW lo (w.heap.size + 1) w.heap.size v sb l (w.alloc (.cells #[v, .bool sb] 25)) := by
  refine ⟨heap_alloc_new w _, hr.below ((Below.refl _ _).alloc (Nat.le_refl _) _), fun b off n c e h0 => ⟨hv b off n c e, ?_⟩, hlo, Nat.lt_succ_self _⟩
  obtain ⟨A, c', rfl, _, _, h3⟩ := hr
  obtain ⟨b', off', rfl, hb, _⟩ := h3 h0
  injection e with e
  injection e with e
  injection e with e
  omega
/-- the second half: what stays from round to round -/
structure FrU (W0 : World) (N0 N15 N17 N18 b15 b18 : Nat) (v15 v18 : Value) (sl sC : Bool) (l CL : List ByteArray) (X : World) : Prop where
  q : Below N0 W0 X
  was : PW N0 N15 b15 v15 sl l X
  cl : PW N17 N18 b18 v18 sC CL X
theorem FrU.below {W0 : World} {N0 N15 N17 N18 b15 b18 : Nat} {v15 v18 : Value} {sl sC : Bool} {l CL : List ByteArray} {X X' : World} (h : FrU W0 N0 N15 N17 N18 b15 b18 v15 v18 sl sC l CL X) (hn : N0 ≤ W0.heap.size) (hb : Below X.heap.size X X') : FrU W0 N0 N15 N17 N18 b15 b18 v15 v18 sl sC l CL X' :=
  ⟨below_up hn h.q hb, h.was.below hb, h.cl.below hb⟩
theorem FrU.chg {D : Nat → Prop} {W0 : World} {N0 N15 N17 N18 b15 b18 : Nat} {v15 v18 : Value} {sl sC : Bool} {l CL : List ByteArray} {X X' : World} (h : FrU W0 N0 N15 N17 N18 b15 b18 v15 v18 sl sC l CL X) (hn : N0 ≤ W0.heap.size) (hc : Chg D X X') (hd : ∀ b, D b → N15 ≤ b ∧ b < N17) : FrU W0 N0 N15 N17 N18 b15 b18 v15 v18 sl sC l CL X' :=
  ⟨h.q.trans (hc.below _ (Nat.le_trans hn h.q.size) (fun b hb k => by have := (hd b k).1; have := h.was.hb; omega)), h.was.chg hc (fun b k => .inr (hd b k).1), h.cl.chg hc (fun b k => .inl (hd b k).2)⟩
/-- a row that can be written, its first i texts "other" -/
def FrO (A : Option Addr) (M lo hi i : Nat) (X : World) : Prop :=
  M = 0 ∨ ∃ (g : Nat) (L : List Value), A = some ⟨g, 0, none⟩ ∧ lo ≤ g ∧ g < hi ∧ RowW X g L ∧ L.length = M ∧ ∀ j, j < i → L[j]? = some (.string fOther)
theorem FrO.of {w : World} {A : Option Addr} {M lo : Nat} {l : List ByteArray} (hr : RdS w (.slice A M M) l) (hM : l.length = M) (hv : ∀ b off n c, (.slice A M M : Value) = .slice (some ⟨b, off, none⟩) n c → lo ≤ b)
    (hw : ∀ b off n c, (.slice A M M : Value) = .slice (some ⟨b, off, none⟩) n c → off = 0 ∧ n = c ∧ RowW w b (l.map vS)) : FrO A M lo w.heap.size 0 w := by
  rcases Nat.eq_zero_or_pos M with h0 | h0
  · exact .inl h0
  · obtain ⟨A', c', e, _, _, h3⟩ := hr
    obtain ⟨b, off, rfl, hb, _⟩ := h3 (by omega)
    injection e with e
    subst e
    obtain ⟨rfl, _, h⟩ := hw b off M M rfl
    exact .inr ⟨b, _, rfl, hv b 0 M M rfl, hb, h, by simpa using hM, fun j hj => by omega⟩
theorem FrO.below {A : Option Addr} {M lo hi i : Nat} {X X' : World} (h : FrO A M lo hi i X) (hb : Below X.heap.size X X') : FrO A M lo hi i X' := by
  rcases h with h | ⟨g, L, h1, h2, h3, h4, h5⟩
  · exact .inl h
  · exact .inr ⟨g, L, h1, h2, h3, h4.below hb, h5⟩
theorem FrO.chg {D : Nat → Prop} {A : Option Addr} {M lo hi i : Nat} {X X' : World} (h : FrO A M lo hi i X) (hc : Chg D X X') (hd : ∀ b, D b → b < lo ∨ hi ≤ b) : FrO A M lo hi i X' := by
  rcases h with h | ⟨g, L, h1, h2, h3, h4, h5⟩
  · exact .inl h
  · exact .inr ⟨g, L, h1, h2, h3, h4.chg hc (fun k => by have := hd _ k; omega), h5⟩
theorem FrO.step {A : Option Addr} {M lo hi i k : Nat} {X : World} (h : FrO A M lo hi i X) (hk : k < M) (s : ByteArray) :
    ∃ g x0, A = some ⟨g, 0, none⟩ ∧ lo ≤ g ∧ g < hi ∧ X.cell? ⟨g, k, none⟩ = some x0 ∧ X.frozen? ⟨g, k, none⟩ = false ∧ g < X.heap.size ∧ Chg (fun x => x = g) X (X.setCell ⟨g, k, none⟩ (.string s)) ∧ FrO A M lo hi 0 (X.setCell ⟨g, k, none⟩ (.string s)) ∧ (s = fOther → k = i → FrO A M lo hi (i + 1) (X.setCell ⟨g, k, none⟩ (.string s))) := by
  rcases h with h | ⟨g, L, h1, h2, h3, h4, h5, h6⟩
  · omega
  · obtain ⟨k1, k2, k3⟩ := h4.at (i := k) (List.getElem?_eq_getElem (by omega))
    refine ⟨g, _, h1, h2, h3, k1, k2, k3, (Chg.refl (fun x => x = g) X).setCell (p := ⟨g, k, none⟩) (fun _ => rfl) _, .inr ⟨g, _, h1, h2, h3, h4.set _, by simpa using h5, fun j hj => by omega⟩, ?_⟩
    rintro rfl rfl
    refine .inr ⟨g, _, h1, h2, h3, h4.set _, by simpa using h5, fun j hj => ?_⟩
    rcases Nat.lt_or_ge j k with h | h
    · rw [List.getElem?_set_ne (by omega)]; exact h6 j h
    · obtain rfl : j = k := by omega
      exact List.getElem?_set_self (by omega)
theorem FrO.cells {A : Option Addr} {M lo hi : Nat} {X : World} (h : FrO A M lo hi M X) : M = 0 ∨ ∃ g, A = some ⟨g, 0, none⟩ ∧ lo ≤ g ∧ g < hi ∧ g < X.heap.size ∧ ∀ j, j < M → X.cell? ⟨g, j, none⟩ = some (.string fOther) := by
  rcases h with h | ⟨g, L, h1, h2, h3, h4, h5, h6⟩
  · exact .inl h
  · refine .inr ⟨g, h1, h2, h3, ?_, fun j hj => (h4.at (h6 j hj)).1⟩
    obtain ⟨cur, k, _⟩ := h4
    exact heap_lt k
/-- the cleaned path, appended to; and its row as it was -/
structure FrA (Ap : Option Addr) (m lo hi : Nat) (v : Value) (b : Bool) (X : World) : Prop where
  bx : X.heap[lo]? = some (.cells #[v, .bool b] 25 (0, 0))
  new : ∃ g c, v = .slice (some ⟨g, 0, none⟩) (m + 1) c ∧ m + 1 ≤ c ∧ c ≤ 9223372036854775807 ∧ hi ≤ g ∧ g < X.heap.size ∧ ∀ j, j < m → X.cell? ⟨g, j, none⟩ = some (.string fOther)
  old : m = 0 ∨ ∃ gp, Ap = some ⟨gp, 0, none⟩ ∧ gp < lo ∧ gp < X.heap.size ∧ ∀ j, j < m → X.cell? ⟨gp, j, none⟩ = some (.string fOther)
theorem FrA.chg {D : Nat → Prop} {Ap : Option Addr} {m lo hi : Nat} {v : Value} {b : Bool} {X X' : World} (h : FrA Ap m lo hi v b X) (hc : Chg D X X') (hd : ∀ b, D b → lo < b ∧ b < hi) : FrA Ap m lo hi v b X' := by
  obtain ⟨bx, ⟨g, c, e, k1, k2, k3, k4, k5⟩, old⟩ := h
  have hs := hc.size
  refine ⟨hc.heap bx (fun k => by have := hd _ k; omega), ⟨g, c, e, k1, k2, k3, by omega, fun j hj => cell_chg hc (k5 j hj) (fun k => by have := hd _ k; omega)⟩, ?_⟩
  rcases old with h | ⟨gp, a, b, c, d⟩
  · exact .inl h
  · exact .inr ⟨gp, a, b, by omega, fun j hj => cell_chg hc (d j hj) (fun k => by have := hd _ k; omega)⟩
theorem FrA.below {Ap : Option Addr} {m lo hi : Nat} {v : Value} {b : Bool} {X X' : World} (h : FrA Ap m lo hi v b X) (hb : Below X.heap.size X X') : FrA Ap m lo hi v b X' := h.chg (Chg.of_below (fun _ => False) hb) (fun _ h => h.elim)

/-- Clean, what it makes named -/
theorem cleanM (l : List ByteArray) (sl : Bool) (hlen : l.length ≤ 8796093022207) : ∃ (CL : List ByteArray) (sC : Bool) (M : Nat), CL.length = M ∧ M ≤ l.length ∧ ∀ w v, RdS w v l →
    Calls Tryd.prog 32 #[.agg #[v, .bool sl]] w fun e w' => ∃ A, e = .returned (.agg #[.slice A M M, .bool sC]) ∧ RdS w' (.slice A M M) CL ∧ Nz (.slice A M M) ∧ (∀ b off n c, (.slice A M M : Value) = .slice (some ⟨b, off, none⟩) n c → w.heap.size + 1 + 1 ≤ b) ∧ (∀ b off n c, (.slice A M M : Value) = .slice (some ⟨b, off, none⟩) n c → off = 0 ∧ n = c ∧ RowW w' b (CL.map vS)) ∧ Below w.heap.size w w' := by
  refine ⟨clF [] l, clS l sl, _, rfl, by have := clF_len l []; simpa using this, fun w v hr => (cleanR_any w v l sl hr hlen).mono ?_⟩
  rintro e w' ⟨u, rfl, h1, h2, h3, h4, ⟨A, k, rfl⟩, h5⟩
  obtain rfl : k = (clF [] l).length := by obtain ⟨_, _, e, _⟩ := h1; injection e
  exact ⟨A, rfl, h1, h2, h3, h4, h5⟩

set_option maxRecDepth 100000 in
set_option maxHeartbeats 8000000 in
theorem fresh_any (W : World) (t : ByteArray) (A : Option Addr) (n c : Nat) (l : List ByteArray) (sl : Bool) (hs : StrsV W (.slice A n c) l) (hz : Nz (.slice A n c)) :
    Calls Tryd.prog 14 #[.string t, .agg #[.slice A n c, .bool sl]] W fun e W' => e = .returned (.bool true) ∧ Below W.heap.size W W' := by
  obtain ⟨i0, hi0, hz0, hz1, hz2⟩ := info_parts info9
  have hn : l.length = n := by obtain ⟨_, _, e, _⟩ := hs.1; injection e with _ e; exact e.symm
  have hlen := hs.2.2
  rw [hn] at hlen
  have HNL := Lib.hid hn
  have HZ := Lib.hid hz
  have hb0 : Below W.heap.size W (W.alloc (.cells #[.slice A n c, .bool sl] 25)) := (Below.refl _ _).alloc (Nat.le_refl _) _
  have HB : Hid (∀ W', Below (W.heap.size + 1) (W.alloc (.cells #[.slice A n c, .bool sl] 25)) W' → Below W.heap.size W W' ∧ W'.heap[W.heap.size]? = some (.cells #[.slice A n c, .bool sl] 25 (0, 0)) ∧ RdS W' (.slice A n c) l) := Lib.hid (fun W' hb => by
    have hb2 := below_lift hb0 (by simpa using hb)
    exact ⟨hb2, (hb.block _ (by simp)).trans (heap_alloc_new W _), hs.1.below hb2⟩)
  have HPL := Lib.hid (pl_ok t)
  clear hb0 hs hz hn
  obtain ⟨P, hP⟩ : ∃ P, pL t = P := ⟨_, rfl⟩
  obtain ⟨b, hb⟩ : ∃ b, pB t = b := ⟨_, rfl⟩
  obtain ⟨er, her⟩ : ∃ er, errOf t = er := ⟨_, rfl⟩
  have HPA : Hid (∀ w e w', PaPost w t e w' → ∃ (A : Option Addr) (m c : Nat), e = .returned (.tuple #[.agg #[.slice A m c, .bool b], .int .i64 er]) ∧ w'.ownsRow w.heap.size 9 1 (.slice A m c) m (P.map vS) ∧ Nz (.slice A m c) ∧ Below w.heap.size w w') := Lib.hid (fun w e w' h => by
    have := h.own
    rw [hP, hb, her] at this
    exact this)
  rw [hP] at HPL
  clear hP hb her
  have hee : (er != er) = false := by simp
  go_enter Tryd.func14, Tryd.ntmps14
  go_wp2_with fail
  refine (first_any _).mono ?_
  rintro e w1 ⟨rfl, hb1⟩
  have hq : Below (W.heap.size + 1) (W.alloc (.cells #[.slice A n c, .bool sl] 25)) w1 := by simpa using hb1
  have HQ1 := Lib.hid hq
  clear hb1 hq
  go_wp2_with fail
  refine (parse_any w1 t).mono ?_
  rintro e w2 hp
  obtain ⟨Ap, m, cp, rfl, hop, hzp, hb2⟩ := HPA.out _ _ _ hp
  have HOP := Lib.hid hop
  have hmP : P.length = m := by have := hop.1; simpa using this
  have HMP := Lib.hid hmP
  have HZP := Lib.hid hzp
  have HB2 := Lib.hid hb2
  clear hp hop hzp hb2 hmP
  go_wp2_with fail
  refine (parse_any _ t).mono ?_
  rintro e w3 hp
  obtain ⟨Ar, mr, cr, rfl, hor, _, hb3⟩ := HPA.out _ _ _ hp
  obtain rfl : mr = m := by have := hor.1; rw [← HMP.out]; simpa using this.symm
  have hszw : W.heap.size + 1 ≤ w1.heap.size := by have := HQ1.out.size; simpa using this
  have hs12 := HB2.out.size
  obtain ⟨lo, hlo⟩ : ∃ lo, w2.heap.size = lo := ⟨_, rfl⟩
  have HLO := Lib.hid hlo
  have hb3' : Below w2.heap.size w2 w3 := below_lift ((Below.refl _ _).alloc (Nat.le_refl _) _) hb3
  have HRW3 := Lib.hid ((FrRow.of_own (nW := W.heap.size + 1) HOP.out hszw hlo).below hb3')
  have HBX3 : Hid (w3.heap[lo]? = some (.cells #[.slice Ap mr cp, .bool b] 25 (0, 0))) := by
    rw [← hlo]
    exact Lib.hid ((hb3.block _ (by simp)).trans (heap_alloc_new w2 _))
  have HQ3 := Lib.hid (below_up (n := W.heap.size + 1) (a := W.alloc (.cells #[.slice A n c, .bool sl] 25)) (by simp) (below_up (by simp) HQ1.out HB2.out) hb3')
  have HRP3 : Hid (RdS w3 (.slice Ap mr cp) P) := Lib.hid ((RdS.of_own (B := w1.heap.size) (by rw [HMP.out]; exact HOP.out)).below hb3')
  have HRR3 : Hid (RdS w3 (.slice Ar mr cr) P ∧ ∀ b off n c, (.slice Ar mr cr : Value) = .slice (some ⟨b, off, none⟩) n c → lo + 1 ≤ b) := Lib.hid ⟨RdS.of_own (B := _) (by rw [HMP.out]; exact hor), fun b off n c e => by have := (hor.lt b (by rw [e]; rfl)).1; rw [← hlo]; simpa using this⟩
  have hsz3 : lo + 1 ≤ w3.heap.size := by have := hb3.size; rw [← hlo]; simpa using this
  rw [hlo]
  clear hb3 hb3' hor hp HOP HB2 hlo
  obtain ⟨d0, d1, f0, hl5⟩ := pbox HBX3.out
  have hl5 : lo < (w3.alloc (.cells #[.slice Ar mr cr, .bool b] 25)).heap.size := by simp; omega
  go_wp2_with fail
  refine (samePath_any _ _ _ P P b b (HRP3.out.below ((Below.refl _ _).alloc (Nat.le_refl _) _)) (HRR3.out.1.below ((Below.refl _ _).alloc (Nat.le_refl _) _))).mono ?_
  rintro e w4 ⟨rfl, hb4⟩
  rw [sameP_rfl]
  have h34 : Below w3.heap.size w3 w4 := below_lift ((Below.refl _ _).alloc (Nat.le_refl _) _) hb4
  have HBX4 : Hid (w4.heap[lo]? = some (.cells #[.slice Ap mr cp, .bool b] 25 (0, 0))) := Lib.hid ((h34.block _ (by omega)).trans HBX3.out)
  have HRW4 := Lib.hid (HRW3.out.below h34)
  have HQ4 := Lib.hid (below_up (n := W.heap.size + 1) (a := W.alloc (.cells #[.slice A n c, .bool sl] 25)) (by simp) HQ3.out h34)
  have HRP4 := Lib.hid (HRP3.out.below h34)
  have HR4 : Hid (PV (lo + 1) w3.heap.size (.slice Ar mr cr) b P w4) := Lib.hid ⟨(hb4.block _ (by simp)).trans (heap_alloc_new w3 _), HRR3.out.1.below h34, HRR3.out.2, hsz3⟩
  have hsz4 : lo + 1 ≤ w4.heap.size := Nat.le_trans hsz3 h34.size
  clear hb4 h34 HBX3 HRW3 HQ3 HRP3 HRR3 d0 d1 f0 hl5
  obtain ⟨d0, d1, f0, hl5⟩ := pbox HBX4.out
  go_wp2_with fail
  refine (copyPath_any w4 Ap mr cp P b HRP4.out HZP.out (by have := HPL.out.1; have := HMP.out; omega)).mono ?_
  rintro e w5 ⟨uk, rfl, hok, hb5⟩
  obtain ⟨Ak, ck, rfl⟩ := own_form hok
  have HS6 : Hid (FrS (W.alloc (.cells #[.slice A n c, .bool sl] 25)) (W.heap.size + 1) lo w3.heap.size w5.heap.size (.slice Ar mr cr) (.slice Ak P.length ck) b P (w5.alloc (.cells #[.slice Ak P.length ck, .bool b] 25))) := by
    have h56 : Below w5.heap.size w5 (w5.alloc (.cells #[.slice Ak P.length ck, .bool b] 25)) := (Below.refl _ _).alloc (Nat.le_refl _) _
    have h46 := below_lift hb5 h56
    refine Lib.hid ⟨below_up (by simp) HQ4.out h46, HR4.out.below h46, ⟨heap_alloc_new w5 _, (RdS.of_own hok).below h56, fun b off n c e => by have := (hok.lt b (by rw [e]; rfl)).1; omega, Nat.le_trans hsz4 hb5.size⟩⟩
  have HBX6 : Hid ((w5.alloc (.cells #[.slice Ak P.length ck, .bool b] 25)).heap[lo]? = some (.cells #[.slice Ap mr cp, .bool b] 25 (0, 0))) := Lib.hid ((Below.heap_alloc _ _ _ (by have := hb5.size; omega)).trans ((hb5.block _ (by omega)).trans HBX4.out))
  have HRW6 := Lib.hid ((HRW4.out.below hb5).below ((Below.refl w5.heap.size w5).alloc (Nat.le_refl _) (.cells #[.slice Ak P.length ck, .bool b] 25)))
  rw [HMP.out] at HS6 HBX6 HRW6 ⊢
  clear hok hb5 HBX4 HRW4 HQ4 HRP4 HR4 d0 d1 f0 hl5 hsz3 hsz4
  go_wp2_with fail
  go_loopw [10] (fun v10 wr => ∃ i : Nat, i ≤ mr ∧ v10 = .int .i64 i ∧ Hid (FrS (W.alloc (.cells #[.slice A n c, .bool sl] 25)) (W.heap.size + 1) lo w3.heap.size w5.heap.size (.slice Ar mr cr) (.slice Ak mr ck) b P wr ∧ wr.heap[lo]? = some (.cells #[.slice Ap mr cp, .bool b] 25 (0, 0)) ∧ FrRow Ap mr cp (W.heap.size + 1) lo i wr)) (fun v10 _ => mr - (intOf v10).toNat)
  case atStart => exact ⟨0, by omega, rfl, Lib.hid ⟨HS6.out, HBX6.out, HRW6.out⟩⟩
  case round =>
    clear HS6 HBX6 HRW6
    obtain ⟨i, hi, rfl, HX⟩ := hrel
    obtain ⟨d0, d1, f0, hl5⟩ := pbox HX.out.2.1
    by_cases hil : i < mr
    · obtain ⟨gp, cur, rfl, a1, a2, a3, a4, a5, a6, a7⟩ := HX.out.2.2.resolve_left (fun h => by omega)
      obtain ⟨x0, c0⟩ : ∃ x0, wr.cell? ⟨gp, i, none⟩ = some x0 := ⟨cur[i]'(by omega), by rw [cell_of_row _ _ _ _ _ _ a3]; exact Array.getElem?_eq_getElem (by omega)⟩
      have f1 := frozen_of_row _ _ i _ _ a3
      have hlg := heap_lt a3
      have a6' : cp ≤ 9223372036854775807 := maxLen_eq ▸ a6
      have hc : Chg (fun x => x = gp) wr (wr.setCell ⟨gp, i, none⟩ (.string fMark)) := (Chg.refl (fun x => x = gp) wr).setCell (p := ⟨gp, i, none⟩) (fun _ => rfl) _
      have HX2 : Hid (FrS (W.alloc (.cells #[.slice A n c, .bool sl] 25)) (W.heap.size + 1) lo w3.heap.size w5.heap.size (.slice Ar mr cr) (.slice Ak mr ck) b P (wr.setCell ⟨gp, i, none⟩ (.string fMark)) ∧ (wr.setCell ⟨gp, i, none⟩ (.string fMark)).heap[lo]? = some (.cells #[.slice (some ⟨gp, 0, none⟩) mr cp, .bool b] 25 (0, 0)) ∧ FrRow (some ⟨gp, 0, none⟩) mr cp (W.heap.size + 1) lo (i + 1) (wr.setCell ⟨gp, i, none⟩ (.string fMark))) := by
        refine Lib.hid ⟨HX.out.1.chg (by have := HX.out.1.q.size; simpa using this) hc (fun x h => by omega), hc.heap HX.out.2.1 (by omega), .inr ⟨gp, cur.setIfInBounds i (.string fMark), rfl, a1, a2, heap_setCell_same _ _ i _ _ _ a3, by simpa using a4, a5, a6, fun j hj => ?_⟩⟩
        rcases Nat.lt_or_ge j i with h | h
        · rw [Array.getElem?_setIfInBounds_ne (by omega)]; exact a7 j h
        · obtain rfl : j = i := by omega
          exact Array.getElem?_setIfInBounds_self_of_lt (by omega)
      clear HX a1 a2 a3 a4 a6 a7 hc
      go_wp2_with fail
      go_roundw
      case rel => exact ⟨i + 1, by omega, by go_num, HX2⟩
      case measure => simp [intOf]; omega
    · obtain rfl : i = mr := by omega
      have hcpm : i ≤ 8796093021952 + 255 := by have := HPL.out.1; have := HMP.out; omega
      go_upto_region 13 with fail
      go_cut [] from 60 to 64 (fun wx => ∃ A7 c7, Hid (FrS (W.alloc (.cells #[.slice A n c, .bool sl] 25)) (W.heap.size + 1) lo w3.heap.size w5.heap.size (.slice Ar i cr) (.slice Ak i ck) b P wx ∧ FrT Ap i lo (.slice A7 (i + 1) c7) b wx))
      case first =>
        rcases Nat.lt_or_ge cp (i + 1) with hfull | hroom
        · have hnone : Ap = none → i = 0 ∧ cp = 0 := fun e => by
            rcases HX.out.2.2 with ⟨_, h⟩ | ⟨gp, cur, h, _⟩
            · exact h
            · rw [h] at e; cases e
          have holds : ∀ a, Ap = some a → ∀ j u, (List.replicate i (Value.string fMark))[j]? = some u → (wr.alloc (.cells #[.string fMore] 9)).cell? (a.add j) = some u := fun a e j u hj => by
            rcases HX.out.2.2 with ⟨h, _⟩ | ⟨gp, cur, h, a1, a2, a3, a4, a5, a6, a7⟩
            · rw [h] at e; cases e
            · rw [h] at e
              obtain rfl := Option.some.inj e
              rw [List.getElem?_replicate] at hj
              split at hj
              · rename_i hji
                rw [Go.WideShapes.add_plain, Nat.zero_add, World.cell?_alloc_lt _ _ _ (heap_lt a3), cell_of_row _ _ _ _ _ _ a3, a7 j hji]
                exact hj
              · cases hj
          have HNO := Lib.hid (And.intro hnone holds)
          clear hnone holds
          go_wp2_with (at_builtin; refine wpList_append_grows _ rfl _ _ 23 rfl 9 i0 (.string ByteArray.empty) 1 16 Tryd.underlying23 hi0 hz0 hz1 hz2 rfl (by decide) Ap i cp (List.replicate i (.string fMark)) rfl HNO.out.1 (by simp) HNO.out.2 ⟨wr.heap.size, 0, none⟩ 1 1 [.string fMore] rfl rfl (World.news_of_block (cs := #[.string fMore]) (t := 9) (fr := (0, 0)) (heap_alloc_new wr _)) (by simp [Value.oneCell']) (by omega) (by rw [maxLen_eq]; omega) (by omega) ?_; intro v7 w7 hown7 hg7; obtain ⟨A7, c7, rfl⟩ := own_form hown7; have HO7 := Lib.hid hown7; have hb7 : Below wr.heap.size wr w7 := ((Below.refl _ _).alloc (Nat.le_refl _) _).grown hg7 (by simp) (fun k e => by cases e); have HB7 := Lib.hid hb7; have hbx7 := (hb7.block lo hl5).trans HX.out.2.1; obtain ⟨d0, d1, f0, hl7⟩ := pbox hbx7; clear hown7 hg7 hb7 hbx7)
          have HT : Hid (FrS (W.alloc (.cells #[.slice A n c, .bool sl] 25)) (W.heap.size + 1) lo w3.heap.size w5.heap.size (.slice Ar i cr) (.slice Ak i ck) b P (w7.setCell ⟨lo, 0, none⟩ (.slice A7 (i + 1) c7)) ∧ FrT Ap i lo (.slice A7 (i + 1) c7) b (w7.setCell ⟨lo, 0, none⟩ (.slice A7 (i + 1) c7))) := by
            have hc : Chg (fun x => x = lo) wr (w7.setCell ⟨lo, 0, none⟩ (.slice A7 (i + 1) c7)) := (Chg.of_below (fun x => x = lo) HB7.out).setCell (p := ⟨lo, 0, none⟩) (fun _ => rfl) _
            have hlow : W.heap.size + 1 ≤ lo := by have := HLO.out; omega
            refine Lib.hid ⟨HX.out.1.chg (by have := HX.out.1.q.size; simpa using this) hc (fun x h => by omega), ⟨heap_setCell_same _ _ 0 _ _ _ ((HB7.out.block lo hl5).trans HX.out.2.1), ?_, ?_⟩⟩
            · rcases HO7.out.2 with ⟨_, e⟩ | ⟨g, cap, cur, e, hb, hg, k1, k2, _⟩
              · omega
              · injection e with e1 _ e3
                subst e1 e3
                refine ⟨g, c7, rfl, k1, maxLen_eq ▸ k2, by simpa using heap_lt hg, fun j hj => ?_⟩
                have hne : lo ≠ g := by simp at hb; omega
                rw [World.cell?_setCell_far _ _ _ _ hne]
                have := HO7.out.cells (g := g) rfl j (.string fMark) (by rw [List.getElem?_append_left (by simpa using hj), List.getElem?_replicate, if_pos hj])
                rwa [Go.WideShapes.add_plain, Nat.zero_add] at this
            · rcases HX.out.2.2 with ⟨_, h, _⟩ | ⟨gp, cur, h, a1, a2, a3, a4, a5, a6, a7⟩
              · exact .inl h
              · refine .inr ⟨gp, h, by have := HB7.out.size; have := heap_lt a3; simp; omega, fun j hj => ?_⟩
                rw [World.cell?_setCell_far _ _ _ _ (show lo ≠ gp by omega), HB7.out.cell (heap_lt a3), cell_of_row _ _ _ _ _ _ a3]
                exact a7 j hj
          go_meet
          case rel => exact ⟨_, _, HT⟩
        · obtain ⟨gp, cur, rfl, a1, a2, a3, a4, a5, a6, a7⟩ := HX.out.2.2.resolve_left (fun h => by omega)
          have a6' : cp ≤ 9223372036854775807 := maxLen_eq ▸ a6
          have hlg := heap_lt a3
          have HOL : Hid (∀ j u, (List.replicate i (Value.string fMark))[j]? = some u → (wr.alloc (.cells #[.string fMore] 9)).cell? ⟨gp, 0 + j, none⟩ = some u) := Lib.hid (fun j u hj => by
            rw [List.getElem?_replicate] at hj
            split at hj
            · rename_i hji
              rw [Nat.zero_add, World.cell?_alloc_lt _ _ _ hlg, cell_of_row _ _ _ _ _ _ a3, a7 j hji]
              exact hj
            · cases hj)
          have HSP : Hid (i + 1 ≤ cp → ∀ j, j < 1 → ((wr.alloc (.cells #[.string fMore] 9)).cell? ⟨gp, 0 + i * 1 + j, none⟩).isSome = true ∧ (wr.alloc (.cells #[.string fMore] 9)).frozen? ⟨gp, 0 + i * 1 + j, none⟩ = false) := Lib.hid (fun _ j hj => by
            obtain rfl : j = 0 := by omega
            have hh : (wr.alloc (.cells #[.string fMore] 9)).heap[gp]? = some (.cells cur 9 (0, 0)) := ((Chg.refl (fun _ => False) wr).alloc _).heap a3 (fun h => h)
            refine ⟨?_, frozen_of_row _ _ _ _ _ hh⟩
            rw [cell_of_row _ _ _ _ _ _ hh, Array.getElem?_eq_getElem (by omega)]
            rfl)
          have HA3 := Lib.hid (And.intro a1 (And.intro a2 (And.intro a3 (And.intro a4 a7))))
          clear a1 a2 a3 a4 a7
          go_wp2_with (at_builtin; refine wpList_append_arg _ rfl _ _ 23 rfl 9 i0 (.string ByteArray.empty) 1 16 Tryd.underlying23 hi0 hz0 hz1 hz2 rfl (by decide) gp 0 i cp (List.replicate i (.string fMark)) rfl (by simp) HOL.out ⟨wr.heap.size, 0, none⟩ 1 1 [.string fMore] rfl rfl (World.news_of_block (cs := #[.string fMore]) (t := 9) (fr := (0, 0)) (heap_alloc_new wr _)) (by simp [Value.oneCell']) HSP.out (by rw [maxLen_eq]; omega) (by omega) ?_ (fun h => by omega); intro _; have hcB : Chg (fun x => x = gp) wr ((wr.alloc (.cells #[.string fMore] 9)).setCells gp (0 + i * 1) [.string fMore]) := ((Chg.refl (fun x => x = gp) wr).alloc _).setCell (p := ⟨gp, 0 + i * 1, none⟩) (fun _ => rfl) _; have hgB : ((wr.alloc (.cells #[.string fMore] 9)).setCells gp (0 + i * 1) [.string fMore]).heap[gp]? = some (.cells (cur.setIfInBounds (0 + i * 1) (.string fMore)) 9 (0, 0)) := heap_setCell_same _ _ _ _ _ _ (((Chg.refl (fun _ => False) wr).alloc _).heap HA3.out.2.2.1 (fun h => h)); obtain ⟨w7, hw7⟩ : ∃ X, ((wr.alloc (.cells #[.string fMore] 9)).setCells gp (0 + i * 1) [.string fMore]) = X := ⟨_, rfl⟩; rw [hw7] at hcB hgB ⊢; clear hw7; have hbxB := hcB.heap HX.out.2.1 (by have := HA3.out.2.1; omega); obtain ⟨d0, d1, f0, hl7⟩ := pbox hbxB; have HB := Lib.hid (And.intro hcB (And.intro hgB hbxB)); clear hbxB hcB hgB)
          obtain ⟨a1, a2, a3, a4, a7⟩ := HA3.out
          have HT : Hid (FrS (W.alloc (.cells #[.slice A n c, .bool sl] 25)) (W.heap.size + 1) lo w3.heap.size w5.heap.size (.slice Ar i cr) (.slice Ak i ck) b P (w7.setCell ⟨lo, 0, none⟩ (.slice (some ⟨gp, 0, none⟩) (i + 1) cp)) ∧ FrT (some ⟨gp, 0, none⟩) i lo (.slice (some ⟨gp, 0, none⟩) (i + 1) cp) b (w7.setCell ⟨lo, 0, none⟩ (.slice (some ⟨gp, 0, none⟩) (i + 1) cp))) := by
            have hc : Chg (fun x => x = gp ∨ x = lo) wr (w7.setCell ⟨lo, 0, none⟩ (.slice (some ⟨gp, 0, none⟩) (i + 1) cp)) := (HB.out.1.mono (fun _ _ e => .inl e)).setCell (p := ⟨lo, 0, none⟩) (fun _ => .inr rfl) _
            have hlow : W.heap.size + 1 ≤ lo := by have := HLO.out; omega
            have hcell : ∀ j, j < i → (w7.setCell ⟨lo, 0, none⟩ (.slice (some ⟨gp, 0, none⟩) (i + 1) cp)).cell? ⟨gp, j, none⟩ = some (.string fMark) := fun j hj => by
              rw [World.cell?_setCell_far _ _ _ _ (show lo ≠ gp by omega), cell_of_row _ _ _ _ _ _ HB.out.2.1, Array.getElem?_setIfInBounds_ne (by omega)]
              exact a7 j hj
            have hlg7 : gp < (w7.setCell ⟨lo, 0, none⟩ (.slice (some ⟨gp, 0, none⟩) (i + 1) cp)).heap.size := by simpa using heap_lt HB.out.2.1
            exact Lib.hid ⟨HX.out.1.chg (by have := HX.out.1.q.size; simpa using this) hc (fun x h => by omega), ⟨heap_setCell_same _ _ 0 _ _ _ HB.out.2.2, ⟨gp, cp, rfl, hroom, a6', hlg7, hcell⟩, .inr ⟨gp, rfl, hlg7, hcell⟩⟩⟩
          go_meet
          case rel => exact ⟨_, _, HT⟩
      case rest =>
        obtain ⟨A7, c7, HT⟩ := hcut
        clear HX d0 d1 f0 hl5
        obtain ⟨d0, d1, f0, hl5⟩ := pbox HT.out.2.bx
        go_wp2_with fail
        refine (parse_any wc t).mono ?_
        rintro e w8 hp
        obtain ⟨A8, m8, c8, rfl, ho8, _, hb8⟩ := HPA.out _ _ _ hp
        obtain rfl : m8 = i := by have := ho8.1; rw [← HMP.out]; simpa using this.symm
        have hlow : lo + 1 ≤ wc.heap.size := by omega
        have h8s := hb8.size
        have h88 : Below w8.heap.size w8 (w8.alloc (.cells #[.slice A8 m8 c8, .bool b] 25)) := (Below.refl _ _).alloc (Nat.le_refl _) _
        have HX8 : Hid (PV (lo + 1) w8.heap.size (.slice A8 m8 c8) b P (w8.alloc (.cells #[.slice A8 m8 c8, .bool b] 25))) := Lib.hid ⟨heap_alloc_new w8 _, (RdS.of_own (by rw [HMP.out]; exact ho8)).below h88, fun b off n c e => by have := (ho8.lt b (by rw [e]; rfl)).1; omega, by omega⟩
        have HS8 := Lib.hid (HT.out.1.below (by simp) hb8)
        have HT8 := Lib.hid (HT.out.2.below hb8)
        clear HT ho8 hp hb8 d0 d1 f0 hl5
        obtain ⟨r0, r1, rf, rl⟩ := pbox HS8.out.r.bx
        obtain ⟨k0, k1, kf, kl⟩ := pbox HS8.out.k.bx
        go_wp2_with fail
        refine (samePath_any _ _ _ P P b b (HS8.out.r.rd.below h88) (HS8.out.k.rd.below h88)).mono ?_
        rintro e w9 ⟨rfl, hb9⟩
        rw [sameP_rfl]
        have h89 := below_lift h88 hb9
        have HS9 := Lib.hid (HS8.out.below (by simp) h89)
        have HT9 := Lib.hid (HT8.out.below h89)
        have HX9 := Lib.hid (HX8.out.below hb9)
        clear h88 hb9 h89 HS8 HT8 HX8 r0 r1 rf rl k0 k1 kf kl
        obtain ⟨r0, r1, rf, rl⟩ := pbox HX9.out.bx
        obtain ⟨k0, k1, kf, kl⟩ := pbox HS9.out.k.bx
        go_wp2_with fail
        refine (samePath_any _ _ _ P P b b HX9.out.rd HS9.out.k.rd).mono ?_
        rintro e w10 ⟨rfl, hb10⟩
        rw [sameP_rfl]
        have HS10 := Lib.hid (HS9.out.below (by simp) hb10)
        have HT10 := Lib.hid (HT9.out.below hb10)
        clear hb10 HS9 HT9 HX9 r0 r1 rf rl k0 k1 kf kl
        obtain ⟨g7, c7', e7, k1, k2, k3, k4⟩ := HT10.out.new
        injection e7 with e7 _ e8
        subst e7 e8
        have HN := Lib.hid k4
        clear k4
        go_wp2_with fail
        go_loopw [14] (fun v14 wr => ∃ i : Nat, i ≤ m8 ∧ v14 = .int .i64 i ∧ wr = w10) (fun v14 _ => m8 - (intOf v14).toNat)
        case atStart => exact ⟨0, by omega, rfl, rfl⟩
        case round =>
          obtain ⟨i, hi2, rfl, rfl⟩ := hrel
          by_cases hil : i < m8
          · obtain ⟨gp, rfl, hgp, hold⟩ := HT10.out.old.resolve_left (by omega)
            have q0 := hold i hil
            have q1 := HN.out i hil
            obtain ⟨d0, d1, f0, hl5⟩ := pbox HT10.out.bx
            clear hold
            go_wp2_with fail
            go_roundw
            case rel => exact ⟨i + 1, by omega, by go_num, trivial⟩
            case measure => simp [intOf]; omega
          · obtain rfl : i = m8 := by omega
            have HQF : Hid (∀ X, Below wr.heap.size wr X → X.heap[W.heap.size]? = some (.cells #[.slice A n c, .bool sl] 25 (0, 0)) ∧ RdS X (.slice A n c) l ∧ X.heap[lo]? = some (.cells #[.slice (some ⟨g7, 0, none⟩) (i + 1) c7, .bool b] 25 (0, 0)) ∧ X.heap[w5.heap.size]? = some (.cells #[.slice Ak i ck, .bool b] 25 (0, 0)) ∧ Below W.heap.size W X) := by
              refine Lib.hid (fun X hX => ?_)
              obtain ⟨a1, a2, a3⟩ := HB.out X (below_up (by simp) HS10.out.q hX)
              exact ⟨a2, a3, (hX.block _ (heap_lt HT10.out.bx)).trans HT10.out.bx, (hX.block _ (heap_lt HS10.out.k.bx)).trans HS10.out.k.bx, a1⟩
            clear HS10 HT10 HN k1 k2 k3 hil HB
            obtain ⟨CL, sC, M, hM, hMl, hC⟩ := cleanM l sl (by have := HNL.out; omega)
            have hMn : M ≤ 8796093021952 := by have := HNL.out; omega
            have HM := Lib.hid hM
            have HC := Lib.hid hC
            clear hM hMl hC
            obtain ⟨d0, d1, f0, hl3⟩ := pbox (HQF.out wr (Below.refl _ _)).1
            go_wp2_with fail
            refine (copyPath_any wr A n c l sl (HQF.out wr (Below.refl _ _)).2.1 HZ.out (by omega)).mono ?_
            rintro e w11 ⟨u15, rfl, ho15, hb11⟩
            obtain ⟨A15, c15, rfl⟩ := own_form ho15
            have hs11 := hb11.size
            have hB11 := hb11.alloc hs11 (.cells #[.slice A15 l.length c15, .bool sl] 25)
            have HW11 := Lib.hid (PW.new (sb := sl) (RdS.of_own ho15) (fun b off n c e => by have := (ho15.lt b (by rw [e]; rfl)).1; omega) hs11)
            have HQ11 := Lib.hid hB11
            obtain ⟨d0, d1, f0, hl3⟩ := pbox (HQF.out w11 hb11).1
            clear ho15 hb11 hB11
            go_wp2_with fail
            refine (HC.out _ _ (HQF.out _ HQ11.out).2.1).mono ?_
            rintro e w12 ⟨A16, rfl, r16, z16, v16, row16, hb12⟩
            have hs12' : w11.heap.size + 1 ≤ w12.heap.size := by have := hb12.size; simpa using this
            have HZ16 := Lib.hid z16
            have HO12 := Lib.hid (FrO.of (lo := w11.heap.size + 1) r16 HM.out (fun b off n c e => by have := v16 b off n c e; simp at this; omega) row16)
            have HW12 := Lib.hid (HW11.out.below hb12)
            have HR12 := Lib.hid r16
            have HQ12 := Lib.hid (below_up (n := wr.heap.size) (Nat.le_refl _) HQ11.out hb12)
            clear r16 z16 v16 row16 hb12 HW11 HQ11 d0 d1 f0 hl3
            obtain ⟨d0, d1, f0, hl3⟩ := pbox (HQF.out w12 HQ12.out).1
            go_wp2_with fail
            have h12 : Below w12.heap.size w12 (w12.alloc (.cells #[.slice A16 M M, .bool sC] 25)) := (Below.refl _ _).alloc (Nat.le_refl _) _
            have hx16 := heap_alloc_new w12 (.cells #[.slice A16 M M, .bool sC] 25)
            refine (HC.out _ _ (HQF.out _ (below_up (Nat.le_refl _) HQ12.out h12)).2.1).mono ?_
            rintro e w13 ⟨A17, rfl, r17, _, v17, row17, hb13⟩
            have hs13 : w12.heap.size + 1 ≤ w13.heap.size := by have := hb13.size; simpa using this
            have h123 := below_lift h12 hb13
            have HO13 := Lib.hid (FrO.of (lo := w12.heap.size + 1) r17 HM.out (fun b off n c e => by have := v17 b off n c e; simp at this; omega) row17)
            have HP13 := Lib.hid (PW.new (sb := sC) (lo := w12.heap.size + 1) r17 (fun b off n c e => by have := v17 b off n c e; simp at this; omega) hs13)
            have HA13 := Lib.hid (And.intro ((hb13.block _ (by simp)).trans hx16) (HO12.out.below h123))
            have HW13 := Lib.hid (HW12.out.below h123)
            have HR13 := Lib.hid (HR12.out.below h123)
            have HQ13 := Lib.hid (below_up (n := wr.heap.size) (Nat.le_refl _) HQ12.out h123)
            clear r17 v17 row17 hb13 h123 h12 hx16 HO12 HW12 HR12 HQ12 d0 d1 f0 hl3
            obtain ⟨d0, d1, f0, hl3⟩ := pbox HA13.out.1
            go_wp2_with fail
            have h13 : Below w13.heap.size w13 (w13.alloc (.cells #[.slice A17 M M, .bool sC] 25)) := (Below.refl _ _).alloc (Nat.le_refl _) _
            refine (copyPath_any _ A16 M M CL sC (HR13.out.below h13) HZ16.out (by omega)).mono ?_
            rintro e w14 ⟨u18, rfl, ho18, hb14⟩
            obtain ⟨A18, c18, rfl⟩ := own_form ho18
            have hs14 : w13.heap.size + 1 ≤ w14.heap.size := by have := hb14.size; simpa using this
            have h134 := below_lift h13 hb14
            have HU14 : Hid (FrU wr wr.heap.size (w11.heap.size + 1) (w13.heap.size + 1) (w14.heap.size + 1) w11.heap.size w14.heap.size (.slice A15 l.length c15) (.slice A18 CL.length c18) sl sC l CL (w14.alloc (.cells #[.slice A18 CL.length c18, .bool sC] 25))) := by
              have h145 : Below w14.heap.size w14 (w14.alloc (.cells #[.slice A18 CL.length c18, .bool sC] 25)) := (Below.refl _ _).alloc (Nat.le_refl _) _
              have h135 := below_lift h134 h145
              exact Lib.hid ⟨below_up (Nat.le_refl _) HQ13.out h135, HW13.out.below h135, PW.new (RdS.of_own ho18) (fun b off n c e => by have := (ho18.lt b (by rw [e]; rfl)).1; simp at this; omega) hs14⟩
            rw [HM.out] at HU14 ⊢
            have HA14 := Lib.hid (And.intro ((h134.block _ (heap_lt HA13.out.1)).trans HA13.out.1) (HA13.out.2.below h134))
            have HR14 := Lib.hid (HR13.out.below h134)
            have HP14 := Lib.hid (And.intro (HP13.out.below hb14) (HO13.out.below h134))
            clear ho18 hb14 h13 h134 HA13 HW13 HR13 HQ13 HP13 HO13 d0 d1 f0 hl3 HZ16
            obtain ⟨d0, d1, f0, hl3⟩ := pbox HA14.out.1
            obtain ⟨k0, k1, kf, kl⟩ := pbox HP14.out.1.bx
            go_wp2_with fail
            have h14 : Below w14.heap.size w14 (w14.alloc (.cells #[.slice A18 M c18, .bool sC] 25)) := (Below.refl _ _).alloc (Nat.le_refl _) _
            refine (samePath_any _ _ _ CL CL sC sC (HR14.out.below h14) (HP14.out.1.rd.below h14)).mono ?_
            rintro e w15 ⟨rfl, hb15⟩
            rw [sameP_rfl]
            have h145 := below_lift h14 hb15
            have HF15 : Hid (FrU wr wr.heap.size (w11.heap.size + 1) (w13.heap.size + 1) (w14.heap.size + 1) w11.heap.size w14.heap.size (.slice A15 l.length c15) (.slice A18 M c18) sl sC l CL w15 ∧ PW (w12.heap.size + 1) (w13.heap.size + 1) w13.heap.size (.slice A17 M M) sC CL w15 ∧ w15.heap[w12.heap.size]? = some (.cells #[.slice A16 M M, .bool sC] 25 (0, 0)) ∧ FrO A16 M (w11.heap.size + 1) w12.heap.size 0 w15 ∧ FrO A17 M (w12.heap.size + 1) w13.heap.size 0 w15) :=
              Lib.hid ⟨HU14.out.below (Nat.le_refl _) hb15, HP14.out.1.below h145, (h145.block _ (heap_lt HA14.out.1)).trans HA14.out.1, HA14.out.2.below h145, HP14.out.2.below h145⟩
            clear hb15 h14 h145 HU14 HP14 HA14 HR14 d0 d1 f0 hl3 k0 k1 kf kl
            go_wp2_with fail
            obtain ⟨wS, hwS⟩ : ∃ X, wr = X := ⟨_, rfl⟩
            rw [hwS] at HF15 HQF
            go_loopw [19] (fun v19 wr => ∃ k : Nat, k ≤ M ∧ v19 = .int .i64 k ∧ Hid (FrU wS wS.heap.size (w11.heap.size + 1) (w13.heap.size + 1) (w14.heap.size + 1) w11.heap.size w14.heap.size (.slice A15 l.length c15) (.slice A18 M c18) sl sC l CL wr ∧ PW (w12.heap.size + 1) (w13.heap.size + 1) w13.heap.size (.slice A17 M M) sC CL wr ∧ wr.heap[w12.heap.size]? = some (.cells #[.slice A16 M M, .bool sC] 25 (0, 0)) ∧ FrO A16 M (w11.heap.size + 1) w12.heap.size k wr ∧ FrO A17 M (w12.heap.size + 1) w13.heap.size 0 wr)) (fun v19 _ => M - (intOf v19).toNat)
            case atStart => exact ⟨0, by omega, rfl, HF15⟩
            case round =>
              clear HF15
              obtain ⟨k, hk, rfl, HX⟩ := hrel
              obtain ⟨d0, d1, f0, hl5⟩ := pbox HX.out.2.2.1
              by_cases hkl : k < M
              · obtain ⟨g, x0, rfl, a1, a2, c0, f1, hlg, hc, ho, ho'⟩ := HX.out.2.2.2.1.step hkl fOther
                have hc16 : (wr.setCell ⟨g, k, none⟩ (.string fOther)).heap[w12.heap.size]? = some (.cells #[.slice (some ⟨g, 0, none⟩) M M, .bool sC] 25 (0, 0)) := hc.heap HX.out.2.2.1 (by omega)
                have HX2 := Lib.hid (And.intro (HX.out.1.chg (Nat.le_refl _) hc (fun x h => by omega)) (And.intro (HX.out.2.1.chg hc (fun x h => by omega)) (And.intro hc16 (And.intro (ho' rfl rfl) (HX.out.2.2.2.2.chg hc (fun x h => by omega))))))
                clear HX hc ho ho' hc16
                go_wp2_with fail
                go_roundw
                case rel => exact ⟨k + 1, by omega, by go_num, HX2⟩
                case measure => simp [intOf]; omega
              · obtain rfl : k = M := by omega
                have HNO : Hid ((A16 = none → k = 0 ∧ k = 0) ∧ ∀ a, A16 = some a → ∀ j u, (List.replicate k (Value.string fOther))[j]? = some u → (wr.alloc (.cells #[.string fLast] 9)).cell? (a.add j) = some u) := by
                  refine Lib.hid ⟨fun e => ?_, fun a e j u hj => ?_⟩
                  · rcases HX.out.2.2.2.1 with h | ⟨g, L, h, _⟩
                    · exact ⟨h, h⟩
                    · rw [h] at e; cases e
                  · rw [List.getElem?_replicate] at hj
                    split at hj
                    · rename_i hji
                      rcases HX.out.2.2.2.1.cells with h | ⟨g, h, _, _, h3, h4⟩
                      · omega
                      · rw [h] at e
                        obtain rfl := Option.some.inj e
                        rw [Go.WideShapes.add_plain, Nat.zero_add, World.cell?_alloc_lt _ _ _ h3, h4 j hji]
                        exact hj
                    · cases hj
                have hs20 := HX.out.1.q.size
                go_upto_region 34 with (at_builtin; refine wpList_append_grows _ rfl _ _ 23 rfl 9 i0 (.string ByteArray.empty) 1 16 Tryd.underlying23 hi0 hz0 hz1 hz2 rfl (by decide) A16 k k (List.replicate k (.string fOther)) rfl HNO.out.1 (by simp) HNO.out.2 ⟨wr.heap.size, 0, none⟩ 1 1 [.string fLast] rfl rfl (World.news_of_block (cs := #[.string fLast]) (t := 9) (fr := (0, 0)) (heap_alloc_new wr _)) (by simp [Value.oneCell']) (by omega) (by rw [maxLen_eq]; omega) (by omega) ?_; intro v7 w7 hown7 hg7; obtain ⟨A7, c7, rfl⟩ := own_form hown7; have HO7 := Lib.hid hown7; have hb7 : Below wr.heap.size wr w7 := ((Below.refl _ _).alloc (Nat.le_refl _) _).grown hg7 (by simp) (fun k e => by cases e); have HB7 := Lib.hid hb7; have hbx7 := (hb7.block _ hl5).trans HX.out.2.2.1; obtain ⟨d0, d1, f0, hl7⟩ := pbox hbx7; clear hown7 hg7 hb7 hbx7)
                have hlt14 := heap_lt HX.out.1.cl.bx
                have hcc : Chg (fun x => x = w12.heap.size) wr (w7.setCell ⟨w12.heap.size, 0, none⟩ (.slice A7 (k + 1) c7)) := (Chg.of_below (fun x => x = w12.heap.size) HB7.out).setCell (p := ⟨w12.heap.size, 0, none⟩) (fun _ => rfl) _
                have HA : Hid (FrA A16 k w12.heap.size (w14.heap.size + 1) (.slice A7 (k + 1) c7) sC (w7.setCell ⟨w12.heap.size, 0, none⟩ (.slice A7 (k + 1) c7))) := by
                  refine Lib.hid ⟨heap_setCell_same _ _ 0 _ _ _ ((HB7.out.block _ hl5).trans HX.out.2.2.1), ?_, ?_⟩
                  · rcases HO7.out.2 with ⟨_, e⟩ | ⟨g, cap, cur, e, hb, hg, k1, k2, _⟩
                    · omega
                    · injection e with e1 _ e3
                      subst e1 e3
                      have hgb : w14.heap.size + 1 ≤ g := by simp at hb; omega
                      refine ⟨g, c7, rfl, k1, maxLen_eq ▸ k2, hgb, by simpa using heap_lt hg, fun j hj => ?_⟩
                      rw [World.cell?_setCell_far _ _ _ _ (show w12.heap.size ≠ g by omega)]
                      have := HO7.out.cells (g := g) rfl j (.string fOther) (by rw [List.getElem?_append_left (by simpa using hj), List.getElem?_replicate, if_pos hj])
                      rwa [Go.WideShapes.add_plain, Nat.zero_add] at this
                  · rcases HX.out.2.2.2.1.cells with h | ⟨gp, h, a1, a2, a3, a4⟩
                    · exact .inl h
                    · refine .inr ⟨gp, h, a2, by have := hcc.size; omega, fun j hj => ?_⟩
                      exact cell_chg hcc (a4 j hj) (by omega)
                obtain ⟨w20, hw20⟩ : ∃ X, w7.setCell ⟨w12.heap.size, 0, none⟩ (.slice A7 (k + 1) c7) = X := ⟨_, rfl⟩
                rw [hw20] at hcc HA ⊢
                have HU20 := Lib.hid (HX.out.1.chg (Nat.le_refl _) hcc (fun x h => by omega))
                have HB20 := Lib.hid (And.intro (HX.out.2.1.chg hcc (fun x h => by omega)) (HX.out.2.2.2.2.chg hcc (fun x h => by omega)))
                have hs20' := HU20.out.q.size
                have hcs := hcc.size
                clear HX HNO HO7 HB7 hcc hw20 d0 d1 f0 hl7 hl5
                obtain ⟨d0, d1, f0, hl3⟩ := pbox (HQF.out w20 HU20.out.q).1
                go_wp2_with fail
                refine (HC.out _ _ (HQF.out _ HU20.out.q).2.1).mono ?_
                rintro e w21 ⟨A21, rfl, r21, _, v21, _, hb21⟩
                have h21 : Below w21.heap.size w21 (w21.alloc (.cells #[.slice A21 k k, .bool sC] 25)) := (Below.refl _ _).alloc (Nat.le_refl _) _
                have h201 := below_lift hb21 h21
                have hs21 := hb21.size
                have HC21 := Lib.hid (PW.new (sb := sC) (lo := w14.heap.size + 1) r21 (fun b off n c e => by have := v21 b off n c e; omega) (by omega))
                have HA21 := Lib.hid (HA.out.below h201)
                have HU21 := Lib.hid (HU20.out.below (Nat.le_refl _) h201)
                have HB21 := Lib.hid (And.intro (HB20.out.1.below h201) (HB20.out.2.below h201))
                obtain ⟨k0, k1, kf, kl⟩ := pbox (HB20.out.1.below hb21).bx
                obtain ⟨l0, l1, lf, ll⟩ := pbox (HU20.out.cl.below hb21).bx
                clear r21 v21 hb21 h21 h201 HA HU20 HB20 d0 d1 f0 hl3
                go_wp2_with fail
                refine (samePath_any _ _ _ CL CL sC sC HB21.out.1.rd HU21.out.cl.rd).mono ?_
                rintro e w22 ⟨rfl, hb22⟩
                rw [sameP_rfl]
                have HC22 := Lib.hid (HC21.out.below hb22)
                have HA22 := Lib.hid (HA21.out.below hb22)
                have HU22 := Lib.hid (HU21.out.below (Nat.le_refl _) hb22)
                have HB22 := Lib.hid (And.intro (HB21.out.1.below hb22) (HB21.out.2.below hb22))
                clear hb22 HC21 HA21 HU21 HB21 k0 k1 kf kl l0 l1 lf ll
                obtain ⟨k0, k1, kf, kl⟩ := pbox HC22.out.bx
                obtain ⟨l0, l1, lf, ll⟩ := pbox HU22.out.cl.bx
                go_wp2_with fail
                refine (samePath_any _ _ _ CL CL sC sC HC22.out.rd HU22.out.cl.rd).mono ?_
                rintro e w23 ⟨rfl, hb23⟩
                rw [sameP_rfl]
                have HC23 := Lib.hid (HC22.out.below hb23)
                have HA23 := Lib.hid (HA22.out.below hb23)
                have HU23 := Lib.hid (HU22.out.below (Nat.le_refl _) hb23)
                have HB23 := Lib.hid (And.intro (HB22.out.1.below hb23) (HB22.out.2.below hb23))
                clear hb23 HC22 HA22 HU22 HB22 k0 k1 kf kl l0 l1 lf ll
                obtain ⟨k0, k1, kf, kl⟩ := pbox (HQF.out _ HU23.out.q).1
                obtain ⟨l0, l1, lf, ll⟩ := pbox HU23.out.was.bx
                go_wp2_with fail
                refine (samePath_any _ _ _ l l sl sl (HQF.out _ HU23.out.q).2.1 HU23.out.was.rd).mono ?_
                rintro e w24 ⟨rfl, hb24⟩
                rw [sameP_rfl]
                have HF24 := Lib.hid (And.intro (HU23.out.below (Nat.le_refl _) hb24) (And.intro (HC23.out.below hb24) (And.intro (HA23.out.below hb24) (And.intro (HB23.out.1.below hb24).bx (HB23.out.2.below hb24)))))
                clear hb24 HC23 HA23 HU23 HB23 k0 k1 kf kl l0 l1 lf ll
                go_wp2_with fail
                go_loopw [22] (fun v22 wr => ∃ j : Nat, j ≤ k ∧ v22 = .int .i64 j ∧ Hid (FrU wS wS.heap.size (w11.heap.size + 1) (w13.heap.size + 1) (w14.heap.size + 1) w11.heap.size w14.heap.size (.slice A15 l.length c15) (.slice A18 k c18) sl sC l CL wr ∧ PW (w14.heap.size + 1) (w21.heap.size + 1) w21.heap.size (.slice A21 k k) sC CL wr ∧ FrA A16 k w12.heap.size (w14.heap.size + 1) (.slice A7 (k + 1) c7) sC wr ∧ wr.heap[w13.heap.size]? = some (.cells #[.slice A17 k k, .bool sC] 25 (0, 0)) ∧ FrO A17 k (w12.heap.size + 1) w13.heap.size 0 wr)) (fun v22 _ => k - (intOf v22).toNat)
                case atStart => exact ⟨0, by omega, rfl, HF24⟩
                case round =>
                  clear HF24
                  obtain ⟨j, hj, rfl, HX⟩ := hrel
                  obtain ⟨d0, d1, f0, hl5⟩ := pbox HX.out.2.2.2.1
                  by_cases hjl : j < k
                  · obtain ⟨g, x0, rfl, a1, a2, c0, f1, hlg, hc, ho, _⟩ := HX.out.2.2.2.2.step hjl fThird
                    have hc17 : (wr.setCell ⟨g, j, none⟩ (.string fThird)).heap[w13.heap.size]? = some (.cells #[.slice (some ⟨g, 0, none⟩) k k, .bool sC] 25 (0, 0)) := hc.heap HX.out.2.2.2.1 (by omega)
                    have HX2 := Lib.hid (And.intro (HX.out.1.chg (Nat.le_refl _) hc (fun x h => by omega)) (And.intro (HX.out.2.1.chg hc (fun x h => by omega)) (And.intro (HX.out.2.2.1.chg hc (fun x h => by omega)) (And.intro hc17 ho))))
                    clear HX hc ho hc17
                    go_wp2_with fail
                    go_roundw
                    case rel => exact ⟨j + 1, by omega, by go_num, HX2⟩
                    case measure => simp [intOf]; omega
                  · obtain rfl : j = k := by omega
                    obtain ⟨g9, c9, e9, k1, k2, k3, k4, k5⟩ := HX.out.2.2.1.new
                    injection e9 with e7 _ e8
                    subst e7 e8
                    have HN := Lib.hid k5
                    have HPK := Lib.hid (And.intro (HQF.out _ HX.out.1.q).2.2.1 (HQF.out _ HX.out.1.q).2.2.2.1)
                    clear k5
                    go_wp2_with fail
                    obtain ⟨wX, hwX⟩ : ∃ X, wr = X := ⟨_, rfl⟩
                    go_loopw [23] (fun v23 wr => ∃ m : Nat, m ≤ j ∧ v23 = .int .i64 m ∧ wr = wX) (fun v23 _ => j - (intOf v23).toNat)
                    case atStart => exact ⟨0, by omega, rfl, hwX⟩
                    case round =>
                      obtain ⟨m, hm2, rfl, rfl⟩ := hrel
                      subst hwX
                      obtain ⟨d0, d1, f0, hl5⟩ := pbox HX.out.2.2.1.bx
                      by_cases hml : m < j
                      · obtain ⟨gp, rfl, _, hgp, hold⟩ := HX.out.2.2.1.old.resolve_left (by omega)
                        have q0 := hold m hml
                        have q1 := HN.out m hml
                        clear hold
                        go_wp2_with fail
                        go_roundw
                        case rel => exact ⟨m + 1, by omega, by go_num, trivial⟩
                        case measure => simp [intOf]; omega
                      · obtain rfl : m = j := by omega
                        obtain ⟨y0, y1, yf, yl⟩ := pbox HX.out.2.1.bx
                        obtain ⟨l0, l1, lf, ll⟩ := pbox HX.out.1.cl.bx
                        go_wp2_with fail
                        refine (samePath_any _ _ _ CL CL sC sC HX.out.2.1.rd HX.out.1.cl.rd).mono ?_
                        rintro e w31 ⟨rfl, hb31⟩
                        rw [sameP_rfl]
                        have HU31 := Lib.hid (HX.out.1.below (Nat.le_refl _) hb31)
                        clear hb31 HX HN HPK d0 d1 f0 hl5 y0 y1 yf yl l0 l1 lf ll
                        obtain ⟨y0, y1, yf, yl⟩ := pbox (HQF.out _ HU31.out.q).1
                        obtain ⟨l0, l1, lf, ll⟩ := pbox HU31.out.was.bx
                        go_wp2_with fail
                        refine (samePath_any _ _ _ l l sl sl (HQF.out _ HU31.out.q).2.1 HU31.out.was.rd).mono ?_
                        rintro e w32 ⟨rfl, hb32⟩
                        rw [sameP_rfl]
                        have hq32 := below_up (Nat.le_refl _) HU31.out.q hb32
                        have HF := Lib.hid (HQF.out _ hq32).2.2.2.2
                        obtain ⟨y0', y1', yf', yl'⟩ := pbox (HQF.out _ hq32).2.2.1
                        obtain ⟨l0', l1', lf', ll'⟩ := pbox (HQF.out _ hq32).2.2.2.1
                        clear hb32 HU31 HQF hq32 y0 y1 yf yl l0 l1 lf ll
                        go_wp2_with fail
                        go_ret
                        exact ⟨by simp, HF.out⟩

/-- PathFresh -/
theorem PathFresh.walk (W : World) (s : ByteArray) (_hs : s.size ≤ 140737488351232) (u : Value) (hp : PathV W u) :
    Calls Tryd.prog 14 #[.string s, u] W fun e W' => e = .returned (.bool true) ∧ Below W.heap.size W W' := by
  obtain ⟨u, l, b, rfl, hs, hpz⟩ := hp
  obtain ⟨A, c, rfl, r⟩ := hs.1
  exact fresh_any W s A _ c l b hs hpz

end Go.Proofs.YtpombeiabgbpiaaDoor
