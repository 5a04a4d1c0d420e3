/-
The law's own helpers: step, samePath, dots, copyPath, copyEdges; what a longer path adds to a way.
-/
import Derived.Test.YtpombeiabgbpiaaDoorWFirst
import Derived.Deep.AppendLies
import Derived.Laws.AppendOwnNone
namespace Go.Proofs.YtpombeiabgbpiaaDoor
open Go.RowKit

/-- a slice value whose elements' cells are these -/
def SrcV (w : World) (A : Option Addr) (m c size : Nat) (news : List Value) : Prop :=
  news.length = m * size ∧ (A = none → m = 0 ∧ c = 0) ∧ ∀ ad, A = some ad → ∀ j u, news[j]? = some u → w.cell? (ad.add j) = some u

theorem SrcV.below {w w' : World} {A : Option Addr} {m c size : Nat} {news : List Value} (h : SrcV w A m c size news) (hb : Below w.heap.size w w') : SrcV w' A m c size news :=
  ⟨h.1, h.2.1, fun ad e j u hj => by
    have := h.2.2 ad e j u hj
    rw [← this]
    exact World.cell?_of_block (hb.block _ (World.block_lt_of_cell? w _ this))⟩

theorem wpList_append_src {P : Program} (w : World) {ops : Array Oper} {rest : List Oper} {o : Oper} {a : Act} {Q : Exit → Act → World → Prop} (hgd : o.guard = none) (s x : Operand) (t : TypeId)
    (ho : o.op = .call { callee := .builtin .append, args := #[s, x], argTypes := #[t, t] })
    (base : Nat) (e : TypeId) (i : TypeInfo) (z : Value) (size bytes : Nat) (ht : P.underlying t = some (.slice e)) (hi : P.info? e = some i) (hz : i.zero = some z)
    (hsize : i.size = size) (hby : i.bytes = bytes) (hzs : z.cells.size = size) (hsz : 0 < size)
    (v : Value) (n : Nat) (xs : List Value) (hs : a.eval s = v) (hown : w.ownsRow base e size v n xs)
    (A : Option Addr) (m c : Nat) (news : List Value) (hx : a.eval x = .slice A m c) (hsrc : SrcV w A m c size news) (h1 : ∀ u ∈ news, u.oneCell' = true)
    (h63 : n + m ≤ maxLen) (hbytes : (n + m) * bytes ≤ 140737488355328) (hbase : base ≤ w.heap.size)
    (h : ∀ v' w', w'.ownsRow base e size v' (n + m) (xs ++ news) → w.grownBy w' v.ownBlock → wpList P ops Q rest (a.put o.dst v') w') : wpList P ops Q (o :: rest) a w := by
  rcases A with _ | ad
  · obtain ⟨rfl, rfl⟩ := hsrc.2.1 rfl
    obtain rfl : news = [] := List.eq_nil_of_length_eq_zero (by have := hsrc.1; omega)
    exact wpList_append_own_none hgd s x t ho base e i size ht hi v n xs hs hown hx (h v w (by simpa using hown) (World.grownBy.refl w _))
  · exact wpList_append_own w hgd s x t ho base e i z size bytes ht hi hz hsize hby hzs hsz v n xs hs hown ad m c news hx hsrc.1 (hsrc.2.2 ad rfl) h1 h63 hbytes hbase (fun v' w' h2 h3 _ => h v' w' h2 h3)

theorem below_grown {B : Nat} {W W3 : World} {v : Value} {n s : Nat} {e : TypeId} {xs : List Value} {o : Obj} (ho : W.ownsRow B e s v n xs) (hB : B ≤ W.heap.size) (hg : (W.alloc o).grownBy W3 v.ownBlock) : Below B W W3 :=
  (((Chg.refl (fun b => v.ownBlock = some b) W).alloc o).grown hg (fun k e _ => e)).below _ hB (fun b hb e => by have := (ho.lt _ e).1; omega)
theorem below_grown0 {B : Nat} {W W3 : World} {v : Value} {n s : Nat} {e : TypeId} {xs : List Value} (ho : W.ownsRow B e s v n xs) (hB : B ≤ W.heap.size) (hg : W.grownBy W3 v.ownBlock) : Below B W W3 :=
  ((Chg.refl (fun b => v.ownBlock = some b) W).grown hg (fun k e _ => e)).below _ hB (fun b hb e => by have := (ho.lt _ e).1; omega)


/-- nil has no room -/
def Nz (v : Value) : Prop := ∀ n c, v = .slice none n c → n = 0 ∧ c = 0
theorem Nz.of_own {w : World} {B n s : Nat} {e : TypeId} {v : Value} {xs : List Value} (h : w.ownsRow B e s v n xs) : Nz v := by
  rcases h.2 with ⟨rfl, h0⟩ | ⟨g, cap, cur, rfl, _⟩
  · intro n c e; injection e with _ e1 e2; exact ⟨e1.symm, e2.symm⟩
  · intro n c e; injection e with e; cases e
theorem RdS.src {w : World} {A : Option Addr} {n c k : Nat} {l : List ByteArray} (h : RdS w (.slice A n c) l) (hz : Nz (.slice A n c)) (hk : k ≤ l.length) : SrcV w A k c 1 ((l.take k).map vS) := by
  obtain ⟨A', c', e, h1, h2, h3⟩ := h
  injection e with e1 e2 e3
  subst e1 e2 e3
  refine ⟨by simp; omega, fun e => ?_, fun ad e j u hj => ?_⟩
  · subst e
    have := hz _ _ rfl
    omega
  · have hjl := (List.getElem?_eq_some_iff.1 hj).1
    simp at hjl
    obtain ⟨b, off, e', hb, hh⟩ := h3 (by omega)
    rw [e'] at e
    injection e with e
    subst e
    rw [List.getElem?_map, List.getElem?_take, if_pos (by omega)] at hj
    obtain ⟨s, hs, rfl⟩ := Option.map_eq_some_iff.1 hj
    rw [Go.WideShapes.add_plain]
    exact hh j s hs

theorem own_form {W : World} {B n s : Nat} {e : TypeId} {v : Value} {xs : List Value} (h : W.ownsRow B e s v n xs) : ∃ A c, v = .slice A n c := by
  rcases h.2 with ⟨rfl, h0⟩ | ⟨g, cap, cur, rfl, _⟩
  · exact ⟨none, 0, by rw [h0]⟩
  · exact ⟨_, _, rfl⟩
theorem path_res {f : Func} {j : Nat} {tmps : Array Value} {X : World} {b : Nat} {u : Value} {d : Bool} (hf : f.results = #[.cell j 25]) (hj : tmps[j]?.getD undef = .pointer (some ⟨b, 0, none⟩)) (hx : X.heap[b]? = some (.cells #[u, .bool d] 25 (0, 0))) :
    (results f tmps).run Tryd.prog X = .ok (.agg #[u, .bool d]) X := by
  have c0 : X.cell? ⟨b, 0, none⟩ = some u := by rw [cell_of_row _ _ _ _ _ _ hx]; rfl
  have c1 : X.cell? ⟨b, 1, none⟩ = some (.bool d) := by rw [cell_of_row _ _ _ _ _ _ hx]; rfl
  simp [results, hf, go_sem, hj, c0, c1]
theorem set_path (W : World) (b : Nat) (x y x0 y0 : Value) (t : TypeId) (hb : W.heap[b]? = some (.cells #[x0, y0] t (0, 0))) :
    ((W.setCell ⟨b, 0, none⟩ x).setCell ⟨b, 1, none⟩ y).heap[b]? = some (.cells #[x, y] t (0, 0)) := heap_setCell_same _ _ 1 _ _ y (heap_setCell_same _ _ 0 _ _ x hb)

set_option maxRecDepth 100000 in
set_option maxHeartbeats 1000000 in
/-- step -/
theorem step_any (w : World) (A : Option Addr) (n c k : Nat) (l : List ByteArray) (b : Bool) (hr : RdS w (.slice A n c) l) (hz : Nz (.slice A n c)) (hk : k ≤ l.length) (hlen : k ≤ 8796093022208) :
    Calls Tryd.prog 24 #[.agg #[.slice A n c, .bool b], .int .i64 k] w fun e w' => ∃ v, e = .returned (.agg #[v, .bool false]) ∧ w'.ownsRow (w.heap.size + 1 + 1) 9 1 v k ((l.take k).map vS) ∧ Below w.heap.size w w' := by
  obtain ⟨i0, hi, hz0, hz1, hz2⟩ := info_parts info9
  have hb : Below w.heap.size w ((w.alloc (.cells #[.slice A n c, .bool b] 25)).alloc (.cells #[.slice none 0 0, .bool false] 25)) := ((Below.refl _ _).alloc (Nat.le_refl _) _).alloc (by simp) _
  have hbx : ((w.alloc (.cells #[.slice A n c, .bool b] 25)).alloc (.cells #[.slice none 0 0, .bool false] 25)).heap[w.heap.size + 1]? = some (.cells #[.slice none 0 0, .bool false] 25 (0, 0)) := by
    simpa using heap_alloc_new (w.alloc (.cells #[.slice A n c, .bool b] 25)) (.cells #[.slice none 0 0, .bool false] 25)
  have hsrc := (hr.below hb).src hz hk
  have HB := Lib.hid hb
  have HBX := Lib.hid hbx
  obtain ⟨A', c', e, h1, h2, h3⟩ := hr
  injection e with e1 e2 e3
  subst e1 e2 e3
  have hcm : c ≤ 9223372036854775807 := maxLen_eq ▸ h2
  clear h2 h3 hz hb hbx
  go_enter Tryd.func24, Tryd.ntmps24
  go_wp2_with (at_builtin; refine wpList_append_src _ rfl _ _ 23 rfl (w.heap.size + 1 + 1) 9 i0 (.string ByteArray.empty) 1 16 Tryd.underlying23 hi hz0 hz1 hz2 rfl (by decide) (.slice none 0 0) 0 [] rfl (World.ownsRow_nil _ _ _ _) A k c _ rfl hsrc (by intro u hu; obtain ⟨s, _, rfl⟩ := List.mem_map.1 hu; rfl) (by rw [maxLen_eq]; omega) (by omega) (by simp) ?_; intro v3 w3 hown3 hg3; obtain ⟨A3, c3, rfl⟩ := own_form hown3; have hb3 := hg3.block (w.heap.size + 1) (heap_lt HBX.out) (by simp [Value.ownBlock]); have hbx3 := hb3.trans HBX.out; have hlt := heap_lt hbx3; have d0 := cell_of_row _ _ 0 _ _ _ hbx3; have d1 := cell_of_row _ _ 1 _ _ _ hbx3; have f0 := frozen_of_row _ _ 0 _ _ hbx3; have f1 := frozen_of_row _ _ 1 _ _ hbx3; simp only [List.getElem?_toArray, List.getElem?_cons_zero, List.getElem?_cons_succ] at d0 d1; clear hb3)
  rw [Nat.zero_add, List.nil_append] at hown3
  have hbb : Below w.heap.size w w3 := HB.out.grown hg3 (by simp; omega) (fun k e => by cases e)
  have hbw : Below (w.heap.size + 1) w3 ((w3.setCell ⟨w.heap.size + 1, 0, none⟩ (.slice A3 k c3)).setCell ⟨w.heap.size + 1, 1, none⟩ (.bool false)) := ((Below.refl (w.heap.size + 1) w3).setCell (p := ⟨w.heap.size + 1, 0, none⟩) (Nat.le_refl _) _).setCell (p := ⟨w.heap.size + 1, 1, none⟩) (Nat.le_refl _) _
  refine bodyPost_ret (path_res (f := Tryd.f24) (j := 4) Tryd.results24 rfl (set_path _ _ _ _ _ _ _ hbx3)) rfl ?_
  refine ⟨_, rfl, own_chg hown3 (((Chg.refl (fun b => b = w.heap.size + 1) w3).setCell (p := ⟨w.heap.size + 1, 0, none⟩) (fun _ => rfl) _).setCell (p := ⟨w.heap.size + 1, 1, none⟩) (fun _ => rfl) _) (fun g e h => by have := (hown3.lt g e).1; omega), hbb.trans (hbw.mono (by omega))⟩

theorem RdE.src {w : World} {A : Option Addr} {n c : Nat} {l : List EdgeV} (h : RdE w (.slice A n c) l) (hz : Nz (.slice A n c)) : SrcV w A n c 4 (edgesC l) := by
  obtain ⟨A', c', e, h1, h2, h4, h3⟩ := h
  injection e with e1 e2 e3
  subst e1 e2 e3
  refine ⟨edgesC_len l, fun e => ?_, fun ad e j u hj => ?_⟩
  · subst e
    exact hz _ _ rfl
  · have hjl := (List.getElem?_eq_some_iff.1 hj).1
    rw [edgesC_len] at hjl
    obtain ⟨b, off, e', hb, hh⟩ := h3 (by omega)
    rw [e'] at e
    injection e with e
    subst e
    rw [Go.WideShapes.add_plain]
    have hi : j / 4 < l.length := by omega
    have hr := hh (j / 4) l[j / 4] (List.getElem?_eq_getElem hi)
    have hx : l[j / 4].cells[j % 4]? = some u := by
      have hm : j % 4 < 4 := Nat.mod_lt _ (by omega)
      obtain ⟨x, hx⟩ : ∃ x, l[j / 4].cells[j % 4]? = some x := ⟨_, List.getElem?_eq_getElem (show j % 4 < l[j / 4].cells.length from hm)⟩
      have := edgesC_at l (j / 4) _ (j % 4) x (List.getElem?_eq_getElem hi) hx
      rw [show j / 4 * 4 + j % 4 = j by omega, hj] at this
      rw [hx, this]
    have := hr (j % 4) u hx
    rwa [show off + j / 4 * 4 + j % 4 = off + j by omega] at this
theorem edgesC_one (l : List EdgeV) : ∀ u ∈ edgesC l, u.oneCell' = true := by
  intro u hu
  obtain ⟨e, _, hu⟩ := List.mem_flatMap.1 hu
  simp [EdgeV.cells] at hu
  rcases hu with rfl | rfl | rfl | rfl <;> rfl

set_option maxRecDepth 100000 in
set_option maxHeartbeats 1000000 in
/-- copyEdges -/
theorem copyEdges_any (w : World) (A : Option Addr) (n c : Nat) (l : List EdgeV) (hr : RdE w (.slice A n c) l) (hz : Nz (.slice A n c)) (hlen : n ≤ 3518437208883) :
    Calls Tryd.prog 28 #[.slice A n c] w fun e w' => ∃ v, e = .returned v ∧ w'.ownsRow w.heap.size 44 4 v n (edgesC l) ∧ Below w.heap.size w w' := by
  obtain ⟨i0, hi, hz0, hz1, hz2⟩ := info_parts info44
  have hsrc := hr.src hz
  clear hr hz
  go_enter Tryd.func28, Tryd.ntmps28
  go_wp2_with (at_builtin; refine wpList_append_src _ rfl _ _ 35 rfl w.heap.size 44 i0 (.agg #[.int .i64 0, .string ByteArray.empty, .int .i64 0, .bool false]) 4 40 Tryd.underlying35 hi hz0 hz1 hz2 rfl (by decide) (.slice none 0 0) 0 [] rfl (World.ownsRow_nil _ _ _ _) A n c _ rfl hsrc (edgesC_one l) (by rw [maxLen_eq]; omega) (by omega) (by simp) ?_; intro v3 w3 hown3 hg3)
  go_ret
  exact ⟨v3, rfl, by simpa using hown3, (Below.refl _ _).grown hg3 (Nat.le_refl _) (fun k e => by cases e)⟩

/-- what parts behind others do: by the way so far -/
theorem wk_append (lk : Int → ByteArray → Int × Bool) : ∀ (l1 : List ByteArray) (way : List (Int × Bool)), way ≠ [] →
    ((wkF lk way l1).2 ≠ 0 ∧ (∀ l2, wkF lk way (l1 ++ l2) = wkF lk way l1) ∧ (wkF lk way l1).1 = (0, false) ∧ ((wkF lk way l1).2 = 143 ∨ (wkF lk way l1).2 = 144) ∧ ∀ l2, wkA lk way (l1 ++ l2) = wkA lk way l1) ∨
    ∃ way1, way1 ≠ [] ∧ wkF lk way l1 = (way1.getLastD (0, false), 0) ∧ (∀ l2, wkF lk way (l1 ++ l2) = wkF lk way1 l2) ∧ ∀ l2, wkA lk way (l1 ++ l2) = wkA lk way l1 ++ wkA lk way1 l2
  | [], way, hw => .inr ⟨way, hw, rfl, fun _ => rfl, fun _ => rfl⟩
  | s :: r, way, hw => by
    by_cases h1 : (way.getLastD (0, false)).2 = false
    · refine .inl ?_
      have e : ∀ l, wkF lk way (s :: l) = ((0, false), 144) := fun l => by rw [wkF, if_pos h1]
      have e' : ∀ l, wkA lk way (s :: l) = [] := fun l => by rw [wkA, if_pos h1]
      rw [e, e']
      exact ⟨by decide, fun l2 => e _, rfl, .inr rfl, fun l2 => e' _⟩
    · by_cases h2 : s = dot1
      · have e : ∀ l, wkF lk way (s :: l) = wkF lk way l := fun l => by rw [wkF, if_neg h1, if_pos h2]
        have e' : ∀ l, wkA lk way (s :: l) = wkA lk way l := fun l => by rw [wkA, if_neg h1, if_pos h2]
        simp only [List.cons_append, e, e']
        exact wk_append lk r way hw
      · by_cases h3 : s = dot2
        · have e : ∀ l, wkF lk way (s :: l) = wkF lk (way.take (max 1 (way.length - 1))) l := fun l => by rw [wkF, if_neg h1, if_neg h2, if_pos h3]
          have e' : ∀ l, wkA lk way (s :: l) = wkA lk (way.take (max 1 (way.length - 1))) l := fun l => by rw [wkA, if_neg h1, if_neg h2, if_pos h3]
          simp only [List.cons_append, e, e']
          refine wk_append lk r _ ?_
          intro h
          have := congrArg List.length h
          have hl := List.length_pos_iff.2 hw
          rw [List.length_take, List.length_nil] at this
          omega
        · by_cases h4 : (lk (way.getLastD (0, false)).1 s).1 < 1
          · refine .inl ?_
            have e : ∀ l, wkF lk way (s :: l) = ((0, false), 143) := fun l => by rw [wkF, if_neg h1, if_neg h2, if_neg h3, if_pos h4]
            have e' : ∀ l, wkA lk way (s :: l) = [((way.getLastD (0, false)).1, s)] := fun l => by rw [wkA, if_neg h1, if_neg h2, if_neg h3, if_pos h4]
            rw [e, e']
            exact ⟨by decide, fun l2 => e _, rfl, .inl rfl, fun l2 => e' _⟩
          · have e : ∀ l, wkF lk way (s :: l) = wkF lk (way ++ [lk (way.getLastD (0, false)).1 s]) l := fun l => by rw [wkF, if_neg h1, if_neg h2, if_neg h3, if_neg h4]
            have e' : ∀ l, wkA lk way (s :: l) = ((way.getLastD (0, false)).1, s) :: wkA lk (way ++ [lk (way.getLastD (0, false)).1 s]) l := fun l => by rw [wkA, if_neg h1, if_neg h2, if_neg h3, if_neg h4]
            simp only [List.cons_append, e, e']
            rcases wk_append lk r (way ++ [lk (way.getLastD (0, false)).1 s]) (by simp) with ⟨a, b, c, d, f⟩ | ⟨way1, a, b, c, d⟩
            · exact .inl ⟨a, b, c, d, fun l2 => by rw [f]⟩
            · exact .inr ⟨way1, a, b, c, fun l2 => by rw [d]⟩
/-- from the root -/
theorem wk_root (lk : Int → ByteArray → Int × Bool) (l1 : List ByteArray) :
    ((wkF lk rootW l1).2 ≠ 0 ∧ (∀ l2, wkF lk rootW (l1 ++ l2) = wkF lk rootW l1) ∧ (wkF lk rootW l1).1 = (0, false) ∧ ((wkF lk rootW l1).2 = 143 ∨ (wkF lk rootW l1).2 = 144) ∧ ∀ l2, wkA lk rootW (l1 ++ l2) = wkA lk rootW l1) ∨
    ∃ way1, way1 ≠ [] ∧ wkF lk rootW l1 = (way1.getLastD (0, false), 0) ∧ (∀ l2, wkF lk rootW (l1 ++ l2) = wkF lk way1 l2) ∧ ∀ l2, wkA lk rootW (l1 ++ l2) = wkA lk rootW l1 ++ wkA lk way1 l2 := wk_append lk l1 rootW (by simp [rootW])

end Go.Proofs.YtpombeiabgbpiaaDoor
