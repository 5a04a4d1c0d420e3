/-
good: the steps with values from 0 to 999999; place3 at any number above 0.
-/
import Derived.Test.YtfljnfmocmhhdaaWGrown
import Derived.Deep.AppendLies
namespace Go.Proofs.Ytfljnfmocmhhdaa
open Go.RowKit

theorem tmod_pos (x m : Int) (hm : 0 < m) : (0 ≤ x.tmod m ∧ x.tmod m < m) ∨ (x.tmod m < 0 ∧ -m < x.tmod m) := by
  rcases Int.lt_or_le x 0 with h | h
  · have e := Int.neg_tmod (-x) m
    rw [Int.neg_neg] at e
    rw [e, Int.tmod_eq_emod_of_nonneg (by omega)]
    have h1 := Int.emod_nonneg (-x) (by omega : m ≠ 0)
    have h2 := Int.emod_lt_of_pos (-x) hm
    omega
  · rw [Int.tmod_eq_emod_of_nonneg h]
    have h1 := Int.emod_nonneg x (by omega : m ≠ 0)
    have h2 := Int.emod_lt_of_pos x hm
    omega
theorem placeM_any (x m : Int) (hm : 0 < m) (hm2 : m ≤ 4611686018427387904) (w : World) : Calls Try.prog 22 #[.int .i64 x, .int .i64 m] w fun e w' => (∃ y : Int, e = .returned (.int .i64 y) ∧ 0 ≤ y ∧ y < m) ∧ w = w' := by
  have hne : (m == 0) = false := by simp; omega
  rcases tmod_pos x m hm with ⟨h1, h2⟩ | ⟨h1, h2⟩
  · go_enter Try.func22, Try.ntmps22
    go_wp2_with fail
    go_ret
    exact ⟨⟨_, rfl, h1, h2⟩, rfl⟩
  · go_enter Try.func22, Try.ntmps22
    go_wp2_with fail
    go_ret
    exact ⟨⟨_, rfl, by omega, by omega⟩, rfl⟩

def cellsT (l : List PutV) : List Value := l.flatMap fun p => [.bool p.1, .int .i64 p.2.1, .int .i64 p.2.2]
theorem cellsT_len (l : List PutV) : (cellsT l).length = l.length * 3 := by
  unfold cellsT
  induction l with
  | nil => rfl
  | cons x l ih => simp only [List.flatMap_cons, List.length_append, ih, List.length_cons, List.length_nil]; omega
theorem cellsT_append (l m : List PutV) : cellsT (l ++ m) = cellsT l ++ cellsT m := by simp [cellsT]
theorem cellsT_at (l : List PutV) (i : Nat) (x : PutV) (h : l[i]? = some x) : (cellsT l)[i * 3]? = some (.bool x.1) ∧ (cellsT l)[i * 3 + 1]? = some (.int .i64 x.2.1) ∧ (cellsT l)[i * 3 + 2]? = some (.int .i64 x.2.2) := by
  induction l generalizing i with
  | nil => simp at h
  | cons y l ih =>
    cases i with
    | zero =>
      obtain rfl : y = x := by simpa using h
      exact ⟨rfl, rfl, rfl⟩
    | succ i =>
      obtain ⟨h1, h2, h3⟩ := ih i (by simpa using h)
      simp only [cellsT, List.flatMap_cons] at h1 h2 h3 ⊢
      refine ⟨?_, ?_, ?_⟩
      · rw [show (i + 1) * 3 = 3 + i * 3 by omega, List.getElem?_append_right (by simp)]; simpa using h1
      · rw [show (i + 1) * 3 + 1 = 3 + (i * 3 + 1) by omega, List.getElem?_append_right (by simp)]; simpa using h2
      · rw [show (i + 1) * 3 + 2 = 3 + (i * 3 + 2) by omega, List.getElem?_append_right (by simp)]; simpa using h3

theorem info41 : (Try.prog.info? 41).map (fun i => (i.zero, i.size, i.bytes)) = some (some (.agg #[.bool false, .int .i64 0, .int .i64 0]), 3, 24) := by kernel_rfl

theorem box3g (w : World) (v0 v1 v2 : Value) (t : TypeId) (W : World) (hW : w.alloc (.cells #[v0, v1, v2] t) = W) :
    Below w.heap.size w W ∧ W.cell? ⟨w.heap.size, 0, none⟩ = some v0 ∧ W.cell? ⟨w.heap.size, 1, none⟩ = some v1 ∧ W.cell? ⟨w.heap.size, 2, none⟩ = some v2 := by
  subst hW
  have h := heap_alloc_new w (.cells #[v0, v1, v2] t)
  refine ⟨(Below.refl _ _).alloc (Nat.le_refl _) _, ?_, ?_, ?_⟩ <;> rw [cell_of_row _ _ _ _ _ _ h] <;> rfl

/-- the steps with other values -/
def Like (l l' : List PutV) : Prop := ∀ (i : Nat) (p : PutV), l'[i]? = some p → ∃ q : PutV, l[i]? = some q ∧ p.1 = q.1 ∧ p.2.1 = q.2.1 ∧ 0 ≤ p.2.2 ∧ p.2.2 < 1000000
/-- behind k rounds -/
structure GdI (w : World) (l : List PutV) (k : Nat) (v : Value) (W : World) : Prop where
  row : ∃ l' : List PutV, W.ownsRow w.heap.size 41 3 v k (cellsT l') ∧ l'.length = k ∧ Like l l'
  bel : Below w.heap.size w W

theorem GdI.step {w wr W2 w1 : World} {l l' : List PutV} {k : Nat} {v v' : Value} {cut : Bool} {O V y : Int} {t : TypeId} {cs : Array Value} (hb : Below w.heap.size w wr) (ho : wr.ownsRow w.heap.size 41 3 v k (cellsT l')) (hk : l'.length = k) (hl : Like l l') (hq : l[k]? = some (cut, O, V)) (y0 : 0 ≤ y) (y1 : y < 1000000)
    (hc : Chg (fun b => b = wr.heap.size) wr W2) (hown : w1.ownsRow w.heap.size 41 3 v' (k + 1) (cellsT l' ++ [.bool cut, .int .i64 O, .int .i64 y])) (hg : (W2.alloc (.cells cs t)).grownBy w1 v.ownBlock) : GdI w l (k + 1) v' w1 := by
  refine ⟨⟨l' ++ [(cut, O, y)], by rw [cellsT_append]; exact hown, by simp [hk], fun i p hp => ?_⟩, ?_⟩
  · rcases Nat.lt_or_ge i l'.length with hi | hi
    · rw [List.getElem?_append_left hi] at hp
      exact hl i p hp
    · rw [List.getElem?_append_right hi] at hp
      have h0 := (List.getElem?_eq_some_iff.1 hp).1
      simp at h0
      have h1 : i = k := by omega
      subst h1
      rw [show i - l'.length = 0 by omega] at hp
      simp at hp
      subst hp
      exact ⟨_, hq, rfl, rfl, y0, y1⟩
  · have hlt := ho.lt
    refine hb.trans (((hc.mono (D' := fun b => b = wr.heap.size ∨ v.ownBlock = some b) (fun _ _ e => .inl e)).alloc (.cells cs t)).grown hg (fun k e _ => .inr e) |>.below _ hb.size ?_)
    rintro b hb2 (e | e)
    · have := hb.size; omega
    · have := hlt _ e; omega

set_option maxRecDepth 100000 in
set_option maxHeartbeats 4000000 in
theorem good_any (w : World) (A : Option Addr) (n c : Nat) (l : List PutV) (hr : RdT w A n c l) : Calls Try.prog 38 #[.slice A n c] w fun e w' => ∃ v l', e = .returned v ∧ w'.ownsRow w.heap.size 41 3 v n (cellsT l') ∧ l'.length = n ∧ Like l l' ∧ Below w.heap.size w w' := by
  obtain ⟨i0, hi, hz0, hz1, hz2⟩ := info_parts info41
  have hln := hr.1
  have hnc := hr.2.1
  have hn := hr.2.2.1
  have HR := Lib.hid hr
  clear hr
  go_enter Try.func38, Try.ntmps38
  go_wp2_with fail
  have HS0 : Hid (GdI w l 0 (.slice none 0 0) w) := ⟨⟨[], World.ownsRow_nil _ _ _ _, rfl, fun i p hp => by simp at hp⟩, Below.refl _ _⟩
  go_loopw [3, 4] (fun v3 v4 wr => ∃ k : Nat, k ≤ n ∧ v4 = .int .i64 k ∧ Hid (GdI w l k v3 wr)) (fun _ v4 _ => n - (intOf v4).toNat)
  case atStart => exact ⟨0, by omega, rfl, HS0⟩
  case round =>
    clear HS0
    obtain ⟨k, hk, rfl, HS⟩ := hrel
    by_cases hlt : k < n
    · obtain ⟨_, _, _, _, hrd⟩ := HR.out.below HS.out.bel
      obtain ⟨b, off, rfl, _, hh⟩ := hrd (by omega)
      obtain ⟨p, hp⟩ : ∃ p, l[k]? = some p := ⟨_, List.getElem?_eq_getElem (by omega)⟩
      obtain ⟨d0, d1, d2⟩ := hh k p hp
      obtain ⟨cut, O, V⟩ := p
      simp only at d0 d1 d2
      obtain ⟨l', ho, hkl, hlk⟩ := HS.out.row
      have HBEL := Lib.hid HS.out.bel
      have HO := Lib.hid ho
      have HKL := Lib.hid hkl
      have HLK := Lib.hid hlk
      have HP := Lib.hid hp
      clear hrd hh hp ho hkl hlk HS
      have hbox := heap_alloc_new wr (.cells #[.bool cut, .int .i64 O, .int .i64 V] 41)
      obtain ⟨W1, hW1⟩ : ∃ X, wr.alloc (.cells #[.bool cut, .int .i64 O, .int .i64 V] 41) = X := ⟨_, rfl⟩
      obtain ⟨hb1, b0, b1, b2⟩ := box3g _ _ _ _ _ _ hW1
      rw [hW1] at hbox
      have f2 := frozen_of_row W1 wr.heap.size 2 _ _ hbox
      have HBX := Lib.hid hbox
      have HB1 := Lib.hid hb1
      clear hbox hb1
      go_wp2_with (rw [hW1])
      refine (placeM_any V 1000000 (by omega) (by omega) W1).mono ?_
      rintro e X ⟨⟨y, rfl, y0, y1⟩, rfl⟩
      have hbox2 := heap_setCell_same W1 wr.heap.size 2 _ _ (.int .i64 y) HBX.out
      have e0 : (W1.setCell ⟨wr.heap.size, 2, none⟩ (.int .i64 y)).cell? ⟨wr.heap.size, 0, none⟩ = some (.bool cut) := by rw [cell_of_row _ _ _ _ _ _ hbox2]; rfl
      have e1 : (W1.setCell ⟨wr.heap.size, 2, none⟩ (.int .i64 y)).cell? ⟨wr.heap.size, 1, none⟩ = some (.int .i64 O) := by rw [cell_of_row _ _ _ _ _ _ hbox2]; rfl
      have e2 : (W1.setCell ⟨wr.heap.size, 2, none⟩ (.int .i64 y)).cell? ⟨wr.heap.size, 2, none⟩ = some (.int .i64 y) := by rw [cell_of_row _ _ _ _ _ _ hbox2]; rfl
      have hch : Chg (fun b => b = wr.heap.size) wr (W1.setCell ⟨wr.heap.size, 2, none⟩ (.int .i64 y)) := (Chg.of_below (fun b => b = wr.heap.size) HB1.out).setCell (p := ⟨wr.heap.size, 2, none⟩) (fun _ => rfl) _
      have hszz : w.heap.size ≤ (W1.setCell ⟨wr.heap.size, 2, none⟩ (.int .i64 y)).heap.size := by have h1 := HBEL.out.size; have h2 := hch.size; omega
      have hsw : w.heap.size ≤ W1.heap.size := by have h1 := HBEL.out.size; have h2 := HB1.out.size; omega
      have HCH := Lib.hid hch
      have HRq := Lib.hid (own_chg HO.out hch (fun b hb e => by have := (HO.out.lt b hb).2; omega))
      have HNB : Hid (((W1.setCell ⟨wr.heap.size, 2, none⟩ (.int .i64 y)).alloc (.cells #[.bool cut, .int .i64 O, .int .i64 y] 41)).heap[W1.heap.size]? = some (.cells #[.bool cut, .int .i64 O, .int .i64 y] 41 (0, 0))) := by
        have h := heap_alloc_new (W1.setCell ⟨wr.heap.size, 2, none⟩ (.int .i64 y)) (.cells #[.bool cut, .int .i64 O, .int .i64 y] 41)
        rwa [show (W1.setCell ⟨wr.heap.size, 2, none⟩ (.int .i64 y)).heap.size = W1.heap.size by simp] at h
      clear hch hW1 hbox2 d0 d1 d2
      go_wp2_with (at_builtin; refine wpList_append_own _ rfl _ _ 22 rfl w.heap.size 41 i0 (.agg #[.bool false, .int .i64 0, .int .i64 0]) 3 24 Try.underlying22 hi hz0 hz1 hz2 rfl (by decide) _ k (cellsT l') rfl (HRq.out.alloc _) ⟨W1.heap.size, 0, none⟩ 1 1 [.bool cut, .int .i64 O, .int .i64 y] rfl rfl (World.news_of_block (cs := #[.bool cut, .int .i64 O, .int .i64 y]) (t := 41) (fr := (0, 0)) HNB.out) (by simp [Value.oneCell']) (by simp only [maxLen]; omega) (by omega) (by simp; omega) ?_; intro v' w1 hown' hgrow _)
      have HE := Lib.hid (GdI.step HBEL.out HO.out HKL.out HLK.out HP.out y0 y1 HCH.out hown' hgrow)
      clear hown' hgrow
      go_wp2_with fail
      go_roundw
      case rel => exact ⟨k + 1, by omega, by go_num, HE⟩
      case measure => simp [intOf]; omega
    · obtain rfl : n = k := by omega
      obtain ⟨l', ho, hkl, hlk⟩ := HS.out.row
      have HO := Lib.hid ho
      have HB := Lib.hid HS.out.bel
      clear ho HS
      go_wp2_with fail
      go_ret
      exact ⟨_, l', rfl, HO.out, hkl, hlk, HB.out⟩

end Go.Proofs.Ytfljnfmocmhhdaa
