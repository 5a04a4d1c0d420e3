/-
first: calls whose answers the document fixes.
-/
import Derived.Test.YtpombeiabgbpiaaDoorWRes
import Derived.Test.YtpombeiabgbpiaaDoorWText
namespace Go.Proofs.YtpombeiabgbpiaaDoor
open Go.RowKit

def edgesC (l : List EdgeV) : List Value := l.flatMap EdgeV.cells
theorem edgesC_len (l : List EdgeV) : (edgesC l).length = l.length * 4 := by
  induction l with
  | nil => rfl
  | cons a l ih => simp [edgesC, EdgeV.cells] at ih ⊢; omega
theorem edgesC_at : ∀ (l : List EdgeV) (i : Nat) (e : EdgeV) (j : Nat) (x : Value), l[i]? = some e → e.cells[j]? = some x → (edgesC l)[i * 4 + j]? = some x
  | [], _, _, _, _, h, _ => by simp at h
  | a :: l, 0, e, j, x, h, hx => by
    obtain rfl : a = e := by simpa using h
    have hj := (List.getElem?_eq_some_iff.1 hx).1
    simp only [edgesC, List.flatMap_cons]
    rw [Nat.zero_mul, Nat.zero_add, List.getElem?_append_left hj]
    exact hx
  | a :: l, i + 1, e, j, x, h, hx => by
    have := edgesC_at l i e j x (by simpa using h) hx
    simp only [edgesC, List.flatMap_cons] at this ⊢
    rw [List.getElem?_append_right (by simp [EdgeV.cells]; omega)]
    rw [← this]
    congr 1
    simp [EdgeV.cells]
    omega
theorem RdE.of_own {w : World} {B : Nat} {v : Value} {l : List EdgeV} (h : w.ownsRow B 44 4 v l.length (edgesC l)) (ho : ∀ e ∈ l, e.Ok) : RdE w v l := by
  rcases h.2 with ⟨rfl, h0⟩ | ⟨g, cap, cur, rfl, hb, hg, h1, h2, h3, h4⟩
  · exact ⟨none, 0, by rw [h0], by omega, by simp [maxLen], ho, fun h => by omega⟩
  · refine ⟨_, cap, rfl, h1, h2, ho, fun _ => ⟨g, 0, rfl, heap_lt hg, fun i e he j x hx => ?_⟩⟩
    have hil := (List.getElem?_eq_some_iff.1 he).1
    have hj : j < 4 := (List.getElem?_eq_some_iff.1 hx).1
    rw [cell_of_row w _ _ _ _ _ hg, Nat.zero_add]
    have e1 := edgesC_at l i e j x he hx
    rw [← h4, List.getElem?_take, if_pos (by omega)] at e1
    rwa [Array.getElem?_toList] at e1

theorem info44 : (Tryd.prog.info? 44).map (fun i => (i.zero, i.size, i.bytes)) = some (some (.agg #[.int .i64 0, .string ByteArray.empty, .int .i64 0, .bool false]), 4, 40) := by kernel_rfl

def tA : ByteArray := ⟨#[97]⟩
def tB : ByteArray := ⟨#[98]⟩
def t0 : ByteArray := ⟨#[47, 97, 47, 47, 98, 47]⟩
def t1 : ByteArray := ⟨#[47, 97, 47, 98, 47]⟩
def es0 : List EdgeV := [(1, tA, 2, true), (2, tB, 3, true)]
theorem f_parts : partsOf t0 = [tA, tB] := by kernel_rfl
theorem f_ends : endsSlash t0 = true := by kernel_rfl
theorem f_err : errOf t0 = 0 := by kernel_rfl
theorem f_text : textOf [tA, tB] true = t1 := by
  rw [textOf_good (by simp) ?_ (by decide +kernel)]
  · kernel_rfl
  · intro p hp
    simp at hp
    rcases hp with rfl | rfl <;> exact ⟨by decide +kernel, by decide +kernel, by decide +kernel, by decide +kernel⟩
theorem f_res : resF (lookT es0) [tA, tB] true = (3, true, 0) := by kernel_rfl
theorem f_par : parF (lookT es0) [tA, tB] = (2, tB, 0) := by kernel_rfl
theorem f_ok : ∀ e ∈ es0, EdgeV.Ok e := by
  intro e he
  simp [es0] at he
  rcases he with rfl | rfl <;> exact ⟨by decide, by rw [maxLen_eq]; decide +kernel, by decide⟩

set_option maxRecDepth 100000 in
set_option maxHeartbeats 4000000 in
theorem first_any (w : World) : Calls Tryd.prog 16 #[] w fun e w' => e = .returned (.bool true) ∧ Below w.heap.size w w' := by
  obtain ⟨i0, hi, hz0, hz1, hz2⟩ := info_parts info44
  have HP := Lib.hid (parse_any w t0)
  unfold t0 at HP
  go_enter Tryd.func16, Tryd.ntmps16
  go_wp2_with fail
  refine HP.out.mono ?_
  rintro e w1 ⟨hb1, he⟩
  change (if errOf t0 = 0 then _ else _) at he
  rw [if_pos f_err] at he
  obtain ⟨v, rfl, ho⟩ := he
  change w1.ownsRow w.heap.size 9 1 v (partsOf t0).length ((partsOf t0).map vS) at ho
  have hsl : (!(partsOf { data := #[47, 97, 47, 47, 98, 47] }).isEmpty && endsSlash { data := #[47, 97, 47, 47, 98, 47] }) = true := by
    change (!(partsOf t0).isEmpty && endsSlash t0) = true
    rw [f_parts, f_ends]; rfl
  rw [hsl]
  have hr := RdS.of_own ho
  rw [f_parts] at hr ho
  obtain ⟨A, c, rfl, h1, h2, h3⟩ := hr
  obtain ⟨g, off, rfl, hgw, hc⟩ := h3 (by decide)
  have hcm : c ≤ 9223372036854775807 := maxLen_eq ▸ h2
  have d0 := hc 0 tA rfl
  rw [Nat.add_zero] at d0
  have d1 := hc 1 tB rfl
  have hr : RdS w1 (.slice (some ⟨g, off, none⟩) 2 c) [tA, tB] := ⟨_, _, rfl, h1, h2, fun _ => ⟨g, off, rfl, hgw, hc⟩⟩
  have hal : ∀ o, Below w1.heap.size w1 (w1.alloc o) := fun o => (Below.refl _ _).alloc (Nat.le_refl _) o
  have HT := Lib.hid (fun o => text_any (w1.alloc o) _ [tA, tB] true (hr.below (hal o)))
  rw [f_text] at HT
  have HB1 := Lib.hid hb1
  have HR := Lib.hid hr
  simp only [List.length_cons, List.length_nil, Nat.zero_add, Nat.reduceAdd] at h1 ⊢
  clear ho hc h2 h3 hsl HP hr hal hb1
  unfold tA tB t1 at *
  go_wp2_with fail
  refine (HT.out _).mono ?_
  rintro e w2 ⟨rfl, hb2⟩
  have hbx : w2.heap[w1.heap.size]? = some (.cells #[.slice (some ⟨g, off, none⟩) 2 c, .bool true] 25 (0, 0)) := (hb2.block _ (by simp)).trans (heap_alloc_new w1 _)
  have HB2 := Lib.hid (below_lift HB1.out (below_lift ((Below.refl _ _).alloc (Nat.le_refl _) _) hb2))
  have HR2 := Lib.hid ((HR.out.below ((Below.refl _ _).alloc (Nat.le_refl _) (.cells #[.slice (some ⟨g, off, none⟩) 2 c, .bool true] 25))).below hb2)
  have HBX := Lib.hid hbx
  clear hb2 d0 d1 hbx HR HT
  go_wp2_with (at_builtin; refine wpList_append_own_at _ rfl _ _ 35 rfl w2.heap.size 44 i0 (.agg #[.int .i64 0, .string ByteArray.empty, .int .i64 0, .bool false]) 4 40 Tryd.underlying35 hi hz0 hz1 hz2 rfl (by decide) (.slice none 0 0) 0 [] rfl (World.ownsRow_nil _ _ _ _) ⟨w2.heap.size, 0, none⟩ 2 2 (edgesC es0) rfl rfl (World.news_of_block (cs := (edgesC es0).toArray) (t := 44) (fr := (0, 0)) (heap_alloc_new w2 _)) (by simp [edgesC, es0, EdgeV.cells, Value.oneCell']) (by rw [maxLen_eq]; omega) (by omega) (by simp) ?_; intro v3 w3 hown3 hg3 _ _)
  have hb3 : Below w2.heap.size w2 w3 := ((Below.refl _ _).alloc (Nat.le_refl _) _).grown hg3 (by simp) (fun k e => by cases e)
  have hbx := (hb3.block _ (heap_lt HBX.out)).trans HBX.out
  have hr3 := HR2.out.below hb3
  have HB3 := Lib.hid (below_lift HB2.out hb3)
  have hre : RdE w3 v3 es0 := RdE.of_own (B := w2.heap.size) (by change w3.ownsRow w2.heap.size 44 4 v3 2 (edgesC es0); simpa using hown3) f_ok
  clear hown3 hg3 HR2 HB2 HBX hb3 hi hz0 hz1 hz2
  refine (newTable_any w3 v3 es0 hre).mono ?_
  rintro e w4 ⟨t, rfl, ht, htw, hb4⟩
  have hbx := (hb4.block _ (heap_lt hbx)).trans hbx
  have c0 : w4.cell? ⟨w1.heap.size, 0, none⟩ = some (.slice (some ⟨g, off, none⟩) 2 c) := by rw [cell_of_row _ _ _ _ _ _ hbx]; rfl
  have c1 : w4.cell? ⟨w1.heap.size, 1, none⟩ = some (.bool true) := by rw [cell_of_row _ _ _ _ _ _ hbx]; rfl
  have hnm : ∀ s ∈ ([⟨#[97]⟩, ⟨#[98]⟩] : List ByteArray), s.size ≤ maxLen := by
    intro s hs
    rw [maxLen_eq]
    simp at hs
    rcases hs with rfl | rfl <;> decide +kernel
  have hrs := resolve_tab w4 t es0 ht f_ok _ [⟨#[97]⟩, ⟨#[98]⟩] true (hr3.below hb4) (by decide) hnm
  change Calls Tryd.prog 23 _ w4 (fun e w' => e = .returned (.tuple #[.int .i64 (resF (lookT es0) [tA, tB] true).1, .bool (resF (lookT es0) [tA, tB] true).2.1, .int .i64 (resF (lookT es0) [tA, tB] true).2.2]) ∧ Below w4.heap.size w4 w') at hrs
  rw [f_res] at hrs
  have HRS := Lib.hid hrs
  have HB4 := Lib.hid (below_lift HB3.out hb4)
  have HBX := Lib.hid hbx
  have HR4 := Lib.hid (hr3.below hb4)
  have HT4 := Lib.hid ht
  have HN := Lib.hid hnm
  clear hrs hbx hre ht htw hb4 hr3 HB3 hnm
  go_wp2_with fail
  refine HRS.out.mono ?_
  rintro e w5 ⟨rfl, hb5⟩
  have hbx := (hb5.block _ (heap_lt HBX.out)).trans HBX.out
  have c0 : w5.cell? ⟨w1.heap.size, 0, none⟩ = some (.slice (some ⟨g, off, none⟩) 2 c) := by rw [cell_of_row _ _ _ _ _ _ hbx]; rfl
  have c1 : w5.cell? ⟨w1.heap.size, 1, none⟩ = some (.bool true) := by rw [cell_of_row _ _ _ _ _ _ hbx]; rfl
  have hps := parent_tab w5 t es0 (HT4.out.below hb5) f_ok _ [⟨#[97]⟩, ⟨#[98]⟩] true (HR4.out.below hb5) (by decide) HN.out
  change Calls Tryd.prog 27 _ w5 (fun e w' => e = .returned (.tuple #[.int .i64 (parF (lookT es0) [tA, tB]).1, .string (parF (lookT es0) [tA, tB]).2.1, .int .i64 (parF (lookT es0) [tA, tB]).2.2]) ∧ Below w5.heap.size w5 w') at hps
  rw [f_par] at hps
  unfold tB at hps
  have HPS := Lib.hid hps
  have HB5 := Lib.hid (below_lift HB4.out hb5)
  clear hps hbx hb5 HR4 HT4 HBX
  go_wp2_with fail
  refine HPS.out.mono ?_
  rintro e w6 ⟨rfl, hb6⟩
  have HB6 := Lib.hid (below_lift HB5.out hb6)
  clear hb6 c0 c1
  go_wp2_with fail
  go_ret
  exact ⟨rfl, HB6.out⟩

/-- PathNames -/
theorem PathNames.walk (W : World) : Calls Tryd.prog 3 #[] W fun e W' => e = .returned (.bool true) ∧ Below W.heap.size W W' := by
  go_enter Tryd.func3, Tryd.ntmps3
  go_wp2_with fail
  refine (first_any W).mono ?_
  rintro e w1 ⟨rfl, hb⟩
  go_wp2_with fail
  go_ret
  exact ⟨rfl, hb⟩

end Go.Proofs.YtpombeiabgbpiaaDoor
