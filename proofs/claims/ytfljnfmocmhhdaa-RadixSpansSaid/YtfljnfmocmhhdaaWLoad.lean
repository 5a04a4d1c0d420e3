/-
Load of runs, as a tree of ints.
-/
import Derived.Test.YtfljnfmocmhhdaaWRuns
namespace Go.Proofs.Ytfljnfmocmhhdaa
open Go.RowKit

/-- what a slice of runs reads as -/
def RdR (w : World) (A : Option Addr) (n c : Nat) (l : List Run) : Prop :=
  l.length = n ∧ n ≤ c ∧ c ≤ 9223372036854775807 ∧ n * 24 ≤ 140737488355328 ∧
    (c = 0 ∨ ∃ b off, A = some ⟨b, off, none⟩ ∧ ∀ j u, (cellsR l)[j]? = some u → w.cell? ⟨b, off + j, none⟩ = some u)
theorem RdR.chg {D : Nat → Prop} {w w' : World} {A : Option Addr} {n c : Nat} {l : List Run} (h : RdR w A n c l) (hc : Chg D w w') (hn : ∀ b off, A = some ⟨b, off, none⟩ → ¬ D b) : RdR w' A n c l :=
  ⟨h.1, h.2.1, h.2.2.1, h.2.2.2.1, h.2.2.2.2.imp id fun ⟨b, off, e, hh⟩ => ⟨b, off, e, fun j u hj => by
    have := hh j u hj
    rw [← this]
    exact World.cell?_of_block (hc.block b (World.block_lt_of_cell? w _ this) (hn b off e))⟩⟩
theorem RdR.below {w w' : World} {A : Option Addr} {n c : Nat} {l : List Run} (h : RdR w A n c l) (hb : Below w.heap.size w w') : RdR w' A n c l := h.chg (Chg.of_below (fun _ => False) hb) (fun _ _ _ h => h)
theorem RdR.own {w : World} {B : Nat} {v : Value} {l : List Run} (h : w.ownsRow B 66 3 v l.length (cellsR l)) (hl : l.length * 24 ≤ 140737488355328) : ∃ A c, v = .slice A l.length c ∧ RdR w A l.length c l ∧ ∀ b off, A = some ⟨b, off, none⟩ → B ≤ b := by
  rcases h.2 with ⟨rfl, h0⟩ | ⟨g, cap, cur, rfl, hB, hg, h1, h2, h3, h4⟩
  · rw [h0]
    exact ⟨none, 0, rfl, ⟨h0, by omega, by omega, by omega, .inl rfl⟩, fun _ _ h => by cases h⟩
  · refine ⟨_, cap, rfl, ⟨rfl, h1, by simpa [maxLen] using h2, hl, .inr ⟨g, 0, rfl, fun j u hj => ?_⟩⟩, fun b off e => by cases e; exact hB⟩
    rw [Nat.zero_add, cell_of_row w _ _ _ _ _ hg]
    rw [← h4, List.getElem?_take] at hj
    split at hj
    · simpa using hj
    · cases hj
/-- the three cells of a run -/
theorem RdR.at_ {w : World} {A : Option Addr} {n c : Nat} {l : List Run} (h : RdR w A n c l) (hp : 0 < n) : ∃ b off, A = some ⟨b, off, none⟩ ∧ ∀ i x, l[i]? = some x →
    w.cell? ⟨b, off + i * 3, none⟩ = some (.int .i64 x.1) ∧ w.cell? ⟨b, off + i * 3 + 1, none⟩ = some (.int .i64 x.2.1) ∧ w.cell? ⟨b, off + i * 3 + 2, none⟩ = some (.int .i64 x.2.2) := by
  obtain ⟨h1, h2, _, _, h3 | ⟨b, off, e, hh⟩⟩ := h
  · omega
  · exact ⟨b, off, e, fun i x hi => ⟨hh _ _ (cellsR_at l i x hi 0 (by omega)), hh _ _ (cellsR_at l i x hi 1 (by omega)), hh _ _ (cellsR_at l i x hi 2 (by omega))⟩⟩

/-- a run that Load refuses -/
abbrev bad (x : Run) : Prop := x.2.2 < 1 ∨ x.2.1 < 1 ∨ x.1 < 0 ∨ 512 ≤ x.1 ∨ 512 - x.1 < x.2.2
/-- the first k pages of a run, set -/
def setRun (f : Nat → Int) (o : Nat) (p : Int) : Nat → Nat → Int
  | 0 => f
  | k + 1 => upd (setRun f o p k) (o + k) (wrap64 (p + k))
/-- what Load makes of a list -/
def loadUp : List Run → (Nat → Int) → Option (Nat → Int)
  | [], f => some f
  | x :: r, f => if bad x then none else loadUp r (setRun f x.1.toNat x.2.1 x.2.2.toNat)
theorem loadUp_append (a b : List Run) (f : Nat → Int) : loadUp (a ++ b) f = (loadUp a f).bind (loadUp b) := by
  induction a generalizing f with
  | nil => rfl
  | cons x a ih =>
    rw [List.cons_append, loadUp, loadUp]
    by_cases h : bad x
    · rw [if_pos h, if_pos h]; rfl
    · rw [if_neg h, if_neg h]; exact ih _
theorem loadUp_one (x : Run) (f : Nat → Int) : loadUp [x] f = if bad x then none else some (setRun f x.1.toNat x.2.1 x.2.2.toNat) := rfl

/-- Set of an offset, told by a whole number -/
theorem set_int (w : World) (r : Nat) (f : Nat → Int) (lb : Nat → Nat) (h : TreeI w r f lb) (off : Int) (h0 : 0 ≤ off) (ho : off < 512) (v : Int) :
    Calls Try.prog 21 #[.pointer (some ⟨r, 0, none⟩), .int .i64 off, .int .i64 v] w fun e w' => e = .returned (.tuple #[.int .i64 (f off.toNat), .int .i64 0]) ∧ ∃ lb', TreeI w' r (upd f off.toNat v) lb' ∧ Ext w lb lb' ∧ Chg (Of lb) w w' := by
  obtain ⟨k, rfl⟩ := Int.eq_ofNat_of_zero_le h0
  have := set_any w r f lb h k (by omega) v
  simpa using this

/-- how Load ends -/
def LoadPost (w : World) (l : List Run) (e : Ending) (w' : World) : Prop :=
  Below w.heap.size w w' ∧ ((loadUp l (fun _ => 0) = none ∧ e = .returned (.tuple #[.pointer none, .int .i64 70])) ∨
    ∃ f r lb, loadUp l (fun _ => 0) = some f ∧ e = .returned (.tuple #[.pointer (some ⟨r, 0, none⟩), .int .i64 0]) ∧ TreeI w' r f lb ∧ ∀ b, lb b ≠ 0 → w.heap.size ≤ b)

/-- behind k rounds -/
structure LdI (w : World) (r : Nat) (fo : Option (Nat → Int)) (W : World) : Prop where
  out : ∃ f lb, fo = some f ∧ TreeI W r f lb ∧ ∀ b, lb b ≠ 0 → w.heap.size ≤ b
  bel : Below w.heap.size w W

/-- in the inner loop -/
structure LdJ (w : World) (r gB : Nat) (o p q : Int) (g : Nat → Int) (W : World) : Prop where
  box : W.heap[gB]? = some (.cells #[.int .i64 o, .int .i64 p, .int .i64 q] 66 (0, 0))
  tree : ∃ lb, TreeI W r g lb ∧ ∀ b, lb b ≠ 0 → w.heap.size ≤ b ∧ b ≠ gB
  bel : Below w.heap.size w W
theorem LdJ.cells {w W : World} {r gB : Nat} {o p q : Int} {g : Nat → Int} (h : LdJ w r gB o p q g W) : W.cell? ⟨gB, 0, none⟩ = some (.int .i64 o) ∧ W.cell? ⟨gB, 1, none⟩ = some (.int .i64 p) ∧ W.cell? ⟨gB, 2, none⟩ = some (.int .i64 q) := by
  refine ⟨?_, ?_, ?_⟩ <;> rw [cell_of_row W _ _ _ _ _ h.box] <;> rfl
theorem LdJ.step {w W W' : World} {r gB : Nat} {o p q : Int} {g g' : Nat → Int} (h : LdJ w r gB o p q g W) {lb lb' : Nat → Nat} (hl : ∀ b, lb b ≠ 0 → w.heap.size ≤ b ∧ b ≠ gB) (ht' : TreeI W' r g' lb') (hx : Ext W lb lb') (hc : Chg (Of lb) W W') : LdJ w r gB o p q g' W' := by
  have hlt := heap_lt h.box
  exact ⟨hc.heap h.box (fun e => (hl _ e).2 rfl), ⟨lb', ht', fun b hb => (hx.1 b hb).elim (hl b) (fun e => ⟨by have := h.bel.size; omega, by omega⟩)⟩, h.bel.trans (hc.below _ h.bel.size (fun b hb e => by have := (hl b e).1; omega))⟩

theorem take_succ_get {α : Type} (l : List α) (k : Nat) (x : α) (h : l[k]? = some x) : l.take (k + 1) = l.take k ++ [x] := by
  rw [List.take_add_one, h]; rfl

set_option maxRecDepth 100000 in
set_option maxHeartbeats 4000000 in
theorem load_any (l : List Run) (A : Option Addr) (n c : Nat) (w : World) (hr : RdR w A n c l) : Calls Try.prog 39 #[.slice A n c] w (LoadPost w l) := by
  have hn : n ≤ 140737488355328 := by have := hr.2.2.2.1; omega
  have hcap := hr.2.1
  have hln := hr.1
  have HR := Lib.hid hr
  clear hr
  go_enter Try.func39, Try.ntmps39
  go_wp2_with fail
  refine (new_tree w).mono ?_
  rintro e w1 ⟨rfl, ht1, hb1, hs1⟩
  have HS0 : Hid (LdI w (w.heap.size + 1) (loadUp (l.take 0) (fun _ => 0)) w1) := ⟨⟨_, _, rfl, ht1, fun b hb => (lbNew_ge hb).1⟩, hb1⟩
  clear ht1 hb1 hs1
  go_wp2_with fail
  go_loopw [11] (fun v11 wr => ∃ k : Nat, k ≤ n ∧ v11 = .int .i64 k ∧ Hid (LdI w (w.heap.size + 1) (loadUp (l.take k) (fun _ => 0)) wr)) (fun v11 _ => n - (intOf v11).toNat)
  case atStart => exact ⟨0, by omega, rfl, HS0⟩
  case round =>
    clear HS0
    obtain ⟨k, hk, rfl, HS⟩ := hrel
    by_cases hlt : k < n
    · obtain ⟨x, hx⟩ : ∃ x, l[k]? = some x := ⟨_, List.getElem?_eq_getElem (by omega)⟩
      have hts := take_succ_get l k x hx
      have hlo := loadUp_append (l.take k) [x] (fun _ => 0)
      rw [← hts] at hlo
      obtain ⟨f, lb, hf, ht, hl⟩ := HS.out.out
      rw [hf, Option.bind_some, loadUp_one] at hlo
      obtain ⟨b, off, rfl, hc⟩ := (HR.out.below HS.out.bel).at_ (by omega)
      obtain ⟨d0, d1, d2⟩ := hc k x hx
      obtain ⟨o, p, q⟩ := x
      simp only at d0 d1 d2 hlo
      have hlall : loadUp l (fun _ => 0) = (loadUp (l.take (k + 1)) (fun _ => 0)).bind (loadUp (l.drop (k + 1))) := by rw [← loadUp_append, List.take_append_drop]
      have HBEL := Lib.hid HS.out.bel
      have HT := Lib.hid ht
      have Hl := Lib.hid hl
      clear ht hl hc hts hf hx HS
      by_cases hbad : bad (o, p, q)
      · rw [if_pos hbad] at hlo
        rw [hlo] at hlall
        have HALL : Hid (loadUp l (fun _ => 0) = none) := hlall
        clear hlall hlo
        have hcase : q < 1 ∨ (1 ≤ q ∧ p < 1) ∨ (1 ≤ q ∧ 1 ≤ p ∧ (o < 0 ∨ 512 ≤ o)) ∨ (1 ≤ q ∧ 1 ≤ p ∧ 0 ≤ o ∧ o < 512 ∧ 512 - o < q) := by
          unfold bad at hbad
          simp only at hbad
          omega
        clear hbad
        rcases hcase with h1 | ⟨h1, h2⟩ | ⟨h1, h2, h3⟩ | ⟨h1, h2, h3, h4, h5⟩
        · go_wp2_with fail
          go_ret2
          exact ⟨HBEL.out.alloc HBEL.out.size _, .inl ⟨HALL.out, rfl⟩⟩
        · go_wp2_with fail
          go_ret2
          exact ⟨HBEL.out.alloc HBEL.out.size _, .inl ⟨HALL.out, rfl⟩⟩
        · have HI := Lib.hid (fun W => isOff_no o W h3)
          clear h3
          go_wp2_with (refine (HI.out _).mono ?_; rintro e w' ⟨rfl, rfl⟩)
          go_ret2
          exact ⟨HBEL.out.alloc HBEL.out.size _, .inl ⟨HALL.out, rfl⟩⟩
        · go_wp2_with (refine (isOff_yes o _ h3 h4).mono ?_; rintro e w' ⟨rfl, rfl⟩)
          go_ret2
          exact ⟨HBEL.out.alloc HBEL.out.size _, .inl ⟨HALL.out, rfl⟩⟩
      · rw [if_neg hbad] at hlo
        have HLO := Lib.hid hlo
        clear hlall hlo
        obtain ⟨h1, h2, h3, h4, h5⟩ : 1 ≤ q ∧ 1 ≤ p ∧ 0 ≤ o ∧ o < 512 ∧ q ≤ 512 - o := by
          unfold bad at hbad
          simp only at hbad
          omega
        clear hbad
        go_wp2_with (refine (isOff_yes o _ h3 h4).mono ?_; rintro e w' ⟨rfl, rfl⟩)
        obtain ⟨wo, rfl⟩ : ∃ wo : World, wo = wr := ⟨_, rfl⟩
        have HJ : Hid (LdJ w (w.heap.size + 1) wo.heap.size o p q (setRun f o.toNat p 0) (wo.alloc (.cells #[.int .i64 o, .int .i64 p, .int .i64 q] 66))) :=
          ⟨heap_alloc_new wo _, ⟨lb, HT.out.below ((Below.refl _ _).alloc (Nat.le_refl _) _), fun b hb => ⟨Hl.out b hb, by have := HT.out.dom b hb; omega⟩⟩, HBEL.out.alloc HBEL.out.size _⟩
        clear d0 d1 d2
        go_loopw [39] (fun v39 wr => ∃ i : Nat, (i : Int) ≤ q ∧ v39 = .int .i64 i ∧ Hid (LdJ w (w.heap.size + 1) wo.heap.size o p q (setRun f o.toNat p i) wr)) (fun v39 _ => (q - intOf v39).toNat)
        case atStart => exact ⟨0, by omega, rfl, HJ⟩
        case round =>
          clear HJ
          obtain ⟨i, hi, rfl, HS⟩ := hrel
          by_cases hil : (i : Int) < q
          · obtain ⟨d0, d1, d2⟩ := HS.out.cells
            obtain ⟨lb2, ht2, hl2⟩ := HS.out.tree
            have HT2 := Lib.hid ht2
            have Hl2 := Lib.hid hl2
            clear ht2 hl2
            go_wp2_with (refine (set_int _ _ _ lb2 HT2.out (o + i) (by omega) (by omega) _).mono ?_; rintro e W' ⟨rfl, lb3, ht3, hx3, hc3⟩)
            have HE : Hid (LdJ w (w.heap.size + 1) wo.heap.size o p q (setRun f o.toNat p (i + 1)) W') := by
              have e : (o + i).toNat = o.toNat + i := by omega
              rw [e] at ht3
              exact HS.out.step Hl2.out ht3 hx3 hc3
            clear ht3 hx3 hc3
            go_roundw
            case rel => exact ⟨i + 1, by omega, by go_num, HE⟩
            case measure => simp [intOf]; omega
          · have hiq : i = q.toNat := by omega
            have HE : Hid (LdI w (w.heap.size + 1) (loadUp (l.take (k + 1)) (fun _ => 0)) wr) := by
              obtain ⟨lb2, ht2, hl2⟩ := HS.out.tree
              rw [HLO.out, ← hiq]
              exact ⟨⟨_, lb2, rfl, ht2, fun b hb => (hl2 b hb).1⟩, HS.out.bel⟩
            clear hiq HS
            go_wp2_with fail
            go_roundw
            case rel => exact ⟨k + 1, by omega, by go_num, HE⟩
            case measure => simp [intOf]; omega
    · obtain rfl : n = k := by omega
      have HE : Hid (LdI w (w.heap.size + 1) (loadUp l (fun _ => 0)) wr) := by
        have := HS.out
        rwa [List.take_of_length_le (Nat.le_of_eq hln)] at this
      clear HS
      go_wp2_with fail
      go_ret2
      obtain ⟨f, lb, hf, ht, hl⟩ := HE.out.out
      exact ⟨HE.out.bel, .inr ⟨f, _, lb, hf, rfl, ht, hl⟩⟩

end Go.Proofs.Ytfljnfmocmhhdaa
