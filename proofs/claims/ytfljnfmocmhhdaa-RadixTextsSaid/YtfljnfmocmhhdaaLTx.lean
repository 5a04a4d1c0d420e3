/-
RadixTexts: a tree of ints and the tree of its texts, side by side.
-/
import Derived.Test.YtfljnfmocmhhdaaSWText
import Derived.Test.YtfljnfmocmhhdaaOpen2
import Derived.Test.YtfljnfmocmhhdaaWLoad
import Derived.Test.YtfljnfmocmhhdaaWMakes
namespace Go.Proofs.Ytfljnfmocmhhdaa
open Go.RowKit

theorem RdT.take {w : World} {A : Option Addr} {n c : Nat} {l : List PutV} (h : RdT w A n c l) {k : Nat} (hk : k ≤ n) : RdT w A k c (l.take k) := by
  obtain ⟨h1, h2, h3, h4, h5⟩ := h
  refine ⟨by rw [List.length_take]; omega, by omega, by omega, fun p hp => h4 p (List.mem_of_mem_take hp), fun h0 => ?_⟩
  obtain ⟨b, off, e, hlt, hh⟩ := h5 (by omega)
  refine ⟨b, off, e, hlt, fun i p hp => hh i p ?_⟩
  rw [List.getElem?_take] at hp
  split at hp
  · exact hp
  · cases hp
theorem own_get {w : World} {B n : Nat} {v : Value} {xs : List Value} (h : w.ownsRow B 9 1 v n xs) : ∃ A c, v = .slice A n c ∧ n ≤ c ∧ c ≤ 9223372036854775807 ∧ ∀ m u, xs[m]? = some u → ∃ g, A = some ⟨g, 0, none⟩ ∧ w.cell? ⟨g, m, none⟩ = some u := by
  obtain ⟨hl, h2⟩ := h
  rcases h2 with ⟨rfl, rfl⟩ | ⟨g, cap, cur, rfl, hB, hg, h1, h2, h3, h4⟩
  · refine ⟨none, 0, rfl, by omega, by omega, fun m u hm => ?_⟩
    have := (List.getElem?_eq_some_iff.1 hm).1
    omega
  · refine ⟨_, cap, rfl, h1, by simpa [maxLen] using h2, fun m u hm => ⟨g, rfl, ?_⟩⟩
    have hml := (List.getElem?_eq_some_iff.1 hm).1
    rw [cell_of_row w _ _ _ _ _ hg]
    rw [← h4, List.getElem?_take, if_pos (by omega)] at hm
    rwa [Array.getElem?_toList] at hm

/-- the text tree's value at an offset -/
def strAt (g : Nat → ByteArray) (O : Int) : ByteArray := if inO O then g O.toNat else ByteArray.empty
def updS (g : Nat → ByteArray) (O : Int) (v : ByteArray) : Nat → ByteArray := if inO O then upd g O.toNat v else g
/-- the two trees -/
structure TxI (w : World) (q : Nat) (F : Nat → Int) (g : Nat → ByteArray) (W : World) : Prop where
  it : ∃ lb, TreeI W (w.heap.size + 1) F lb ∧ ∀ b, lb b ≠ 0 → w.heap.size ≤ b ∧ b < q
  st : ∃ lb, Str.TreeI W (q + 1) g lb ∧ ∀ b, lb b ≠ 0 → q ≤ b
  bel : Below w.heap.size w W
  hq : w.heap.size ≤ q ∧ q ≤ W.heap.size
theorem TxI.below {w W W' : World} {q : Nat} {F : Nat → Int} {g : Nat → ByteArray} (h : TxI w q F g W) (hb : Below W.heap.size W W') : TxI w q F g W' := by
  obtain ⟨lb, h1, h2⟩ := h.it
  obtain ⟨lb2, h3, h4⟩ := h.st
  have h5 := h.hq
  have h6 := hb.size
  exact ⟨⟨lb, h1.below hb, h2⟩, ⟨lb2, h3.below hb, h4⟩, below_lift h.bel hb, by omega⟩
theorem TxI.step {w W W' : World} {q : Nat} {F : Nat → Int} {g g' : Nat → ByteArray} (h : TxI w q F g W) {lb : Nat → Nat} (hl : ∀ b, lb b ≠ 0 → q ≤ b) (hc : Chg (Str.Of lb) W W') {lb' : Nat → Nat} (ht : Str.TreeI W' (q + 1) g' lb')
    (hl' : ∀ b, lb' b ≠ 0 → q ≤ b) : TxI w q F g' W' := by
  obtain ⟨lb1, h1, h2⟩ := h.it
  have h5 := h.hq
  have h6 := hc.size
  exact ⟨⟨lb1, h1.chg hc (fun b hb e => by have := h2 b hb; have := hl b e; omega), h2⟩, ⟨lb', ht, hl'⟩, h.bel.trans (hc.below _ h.bel.size (fun b hb e => by have := hl b e; omega)), by omega⟩
theorem set_txt {w W : World} {q : Nat} {F : Nat → Int} {g : Nat → ByteArray} (h : TxI w q F g W) (O : Int) (v : ByteArray) :
    Calls Try.prog 26 #[.pointer (some ⟨q + 1, 0, none⟩), .int .i64 O, .string v] W fun e W' => e = .returned (.tuple #[.string (strAt g O), .int .i64 (setE O)]) ∧ TxI w q F (updS g O v) W' ∧ Chg (fun b => q ≤ b) W W' := by
  by_cases hi : inO O
  · have e1 : strAt g O = g O.toNat := if_pos hi
    have e2 : updS g O v = upd g O.toNat v := if_pos hi
    have e3 : setE O = 0 := if_pos hi
    rw [e1, e2, e3]
    obtain ⟨lb, h3, h4⟩ := h.st
    have hO : O = (O.toNat : Nat) := by have := hi.1; omega
    have := Str.set_any W (q + 1) g lb h3 O.toNat (by have := hi.2; omega) v
    rw [← hO] at this
    refine this.mono ?_
    rintro e W' ⟨rfl, lb', ht, hx, hc⟩
    refine ⟨rfl, h.step h4 hc ht (fun b hb => (hx.1 b hb).elim (h4 b) (fun e => Nat.le_trans h.hq.2 e)), hc.mono (fun b _ e => h4 b e)⟩
  · have e1 : strAt g O = ByteArray.empty := if_neg hi
    have e2 : updS g O v = g := if_neg hi
    have e3 : setE O = 70 := if_neg hi
    rw [e1, e2, e3]
    refine (Str.set_out W (q + 1) O v (by unfold inO at hi; omega)).mono ?_
    rintro e W' ⟨rfl, rfl⟩
    exact ⟨rfl, h, Chg.refl _ _⟩
theorem cut_txt {w W : World} {q : Nat} {F : Nat → Int} {g : Nat → ByteArray} (h : TxI w q F g W) (O : Int) (ho1 : -9223372036854775808 ≤ O) :
    Calls Try.prog 28 #[.pointer (some ⟨q + 1, 0, none⟩), .int .i64 O] W fun e W' => ∃ v, e = .returned v ∧
      W'.ownsRow W.heap.size 9 1 v (Str.items g 0 O 512).length ((Str.items g 0 O 512).map fun x => .string x.2) ∧ TxI w q F (Str.cutI g O) W' ∧ Chg (fun b => q ≤ b) W W' := by
  obtain ⟨lb, h3, h4⟩ := h.st
  refine (Str.cut_calls W (q + 1) g lb h3 O ho1).mono ?_
  rintro e W' ⟨v, rfl, ho, ht, hc⟩
  exact ⟨v, rfl, ho, h.step h4 hc ht h4, hc.mono (fun b _ e => h4 b e)⟩

/-- the texts of a tree of ints -/
def txts (f : Nat → Int) (i : Nat) : ByteArray := Str.txt (f i)
theorem txts_upd (f : Nat → Int) (O V : Int) : updS (txts f) O (Str.txt V) = txts (updI f O V) := by
  unfold updS updI
  by_cases h : inO O
  · rw [if_pos h, if_pos h]
    funext i
    by_cases e : i = O.toNat
    · subst e; rw [upd_same]; unfold txts; rw [upd_same]
    · rw [upd_other _ _ e]; unfold txts; rw [upd_other _ _ e]
  · rw [if_neg h, if_neg h]
theorem txts_cut (f : Nat → Int) (O : Int) : Str.cutI (txts f) O = txts (cutI f O) := by
  funext i
  unfold Str.cutI txts cutI
  split
  · exact Str.txt_zero.symm
  · rfl
theorem txts_step (f : Nat → Int) (p : PutV) : txts (stepP f p) = if p.1 then Str.cutI (txts f) p.2.1 else updS (txts f) p.2.1 (Str.txt p.2.2) := by
  unfold stepP
  split
  · exact (txts_cut f _).symm
  · exact (txts_upd f _ _).symm
theorem txts_empty {f : Nat → Int} {i : Nat} : txts f i = ByteArray.empty ↔ f i = 0 :=
  ⟨fun h => Classical.byContradiction fun e => Str.txt_no e h, fun h => by unfold txts; rw [h, Str.txt_zero]⟩
theorem txts_none : txts (fun _ => 0) = fun _ => ByteArray.empty := funext fun _ => Str.txt_zero
/-- one more place of the list that Cut hands back -/
theorem cut_item (f : Nat → Int) (O : Int) {k : Nat} (hk : k < 512) (h1 : O ≤ (k : Int)) (h2 : f k ≠ 0) :
    (Str.items (txts f) 0 O 512)[(Str.items (txts f) 0 O k).length]? = some (k, Str.txt (f k)) ∧ (Str.items (txts f) 0 O (k + 1)).length = (Str.items (txts f) 0 O k).length + 1 := by
  have hs := Str.items_succ (txts f) 0 O k
  rw [if_pos ⟨by simpa using h1, fun e => h2 (txts_empty.1 e)⟩, Nat.zero_add] at hs
  obtain ⟨t, ht⟩ := Str.items_pre (txts f) 0 O (i := k + 1) (n := 512) (by omega)
  refine ⟨?_, by rw [hs]; simp⟩
  rw [← ht, hs, List.append_assoc, List.getElem?_append_right (Nat.le_refl _), Nat.sub_self]
  rfl
theorem cut_noitem (f : Nat → Int) (O : Int) (k : Nat) (h : (k : Int) < O ∨ f k = 0) : Str.items (txts f) 0 O (k + 1) = Str.items (txts f) 0 O k := by
  rw [Str.items_succ, if_neg (by
    rintro ⟨h1, h2⟩
    rcases h with h | h
    · have : O ≤ (k : Int) := by simpa using h1
      omega
    · exact h2 (txts_empty.2 h)), List.append_nil]

theorem cnt_txts (f : Nat → Int) : ∀ n, Str.cntN (txts f) n = cntN f n
  | 0 => rfl
  | n + 1 => by
    rw [Str.cntN_succ, cntN_succ, cnt_txts f n]
    by_cases h : f n = 0
    · rw [if_pos h, if_pos (txts_empty.2 h)]
    · rw [if_neg h, if_neg (fun e => h (txts_empty.1 e))]
theorem lastP_in64 (l : List PutV) (x : Int) (h : ∀ p ∈ l, -9223372036854775808 ≤ p.2.2 ∧ p.2.2 ≤ 9223372036854775807) : -9223372036854775808 ≤ lastP l x ∧ lastP l x ≤ 9223372036854775807 := by
  unfold lastP
  have h0 : -9223372036854775808 ≤ (0 : Int) ∧ (0 : Int) ≤ 9223372036854775807 := by omega
  generalize (0 : Int) = v at *
  induction l generalizing v with
  | nil => exact h0
  | cons p l ih =>
    refine ih (fun q hq => h q (by simp [hq])) _ ?_
    have hp := h p (by simp)
    unfold stepL
    split
    · split <;> omega
    · split <;> omega

end Go.Proofs.Ytfljnfmocmhhdaa
