/-
An append to a row of the call's own, told by both of the kit's laws at once: where the new row reads, and that the old one stays.
-/
import Derived.Test.YtelhmddigogmgaaDoorWBytes
import Derived.Deep.Onto
namespace Go.Proofs.YtelhmddigogmgaaDoor
open Go.RowKit

theorem append_both {P : Program} {w : World} (base : Nat) (t ty e : TypeId) (i : TypeInfo) (z : Value) (size bytes : Nat) (ht : P.underlying t = some (.slice e)) (hi : P.info? e = some i) (hz : i.zero = some z)
    (hsize : i.size = size) (hby : i.bytes = bytes) (hzs : z.cells.size = size) (hsz : 0 < size)
    {ao : Option Addr} {b off len cap : Nat} {olds : List Value} (hc : Came w size ao b off len cap olds) (hown : w.ownsRow base e size (.slice ao len cap) len olds)
    (ad : Addr) (c : Nat) (news : List Value) (hl : news.length = 1 * size) (hnews : ∀ j u, news[j]? = some u → w.cell? (ad.add j) = some u) (h1 : ∀ u ∈ news, u.oneCell' = true)
    (h63 : len + 1 ≤ maxLen) (hbytes : (len + 1) * bytes ≤ 140737488355328) (hbase : base ≤ w.heap.size) :
    ∃ v' w', (Builtin.append_ #[t, t] ty #[.slice ao len cap, .slice (some ad) 1 c]).run P w = .ok v' w' ∧ w'.ownsRow base e size v' (len + 1) (olds ++ news) ∧ w.grownBy w' (Value.slice ao len cap).ownBlock ∧
      Onto w e size ao b off len cap olds w' v' 1 news := by
  obtain ⟨v1, w1, r1, o1, g1, _⟩ := run_append_own (P := P) w base t ty e i z size bytes ht hi hz hsize hby hzs hsz (.slice ao len cap) len olds hown ad 1 c news hl hnews h1 h63 hbytes hbase
  obtain ⟨v2, w2, r2, o2⟩ := run_append_onto (P := P) hc t ty i z bytes ht hi hz hsize hby hzs hsz (Onto.start hc) ad c news hl hnews h1 h63 hbytes
  rw [r1] at r2
  obtain ⟨rfl, rfl⟩ := Result.ok.inj r2
  exact ⟨v1, w1, r1, o1, g1, by simpa using o2⟩

theorem wpList_append_both {P : Program} {w : World} {ops : Array Oper} {rest : List Oper} {o : Oper} {a : Act} {Q : Exit → Act → World → Prop} (hgd : o.guard = none) (s x : Operand) (t : TypeId)
    (ho : o.op = .call { callee := .builtin .append, args := #[s, x], argTypes := #[t, t] })
    (base : Nat) (e : TypeId) (i : TypeInfo) (z : Value) (size bytes : Nat) (ht : P.underlying t = some (.slice e)) (hi : P.info? e = some i) (hz : i.zero = some z)
    (hsize : i.size = size) (hby : i.bytes = bytes) (hzs : z.cells.size = size) (hsz : 0 < size)
    {ao : Option Addr} {b off len cap : Nat} {olds : List Value} (hc : Came w size ao b off len cap olds) (hs : a.eval s = .slice ao len cap) (hown : w.ownsRow base e size (.slice ao len cap) len olds)
    (ad : Addr) (c : Nat) (news : List Value) (hx : a.eval x = .slice (some ad) 1 c) (hl : news.length = 1 * size) (hnews : ∀ j u, news[j]? = some u → w.cell? (ad.add j) = some u) (h1 : ∀ u ∈ news, u.oneCell' = true)
    (h63 : len + 1 ≤ maxLen) (hbytes : (len + 1) * bytes ≤ 140737488355328) (hbase : base ≤ w.heap.size)
    (h : ∀ v' w', w'.ownsRow base e size v' (len + 1) (olds ++ news) → w.grownBy w' (Value.slice ao len cap).ownBlock → Onto w e size ao b off len cap olds w' v' 1 news → wpList P ops Q rest (a.put o.dst v') w') : wpList P ops Q (o :: rest) a w := by
  refine wpList_plain hgd fun K hK => ?_
  obtain ⟨v', w', hr, h2, h3, h4⟩ := append_both (P := P) base t o.type e i z size bytes ht hi hz hsize hby hzs hsz hc hown ad c news hl hnews h1 h63 hbytes hbase
  unfold Oper.wp execOp
  simp only [ho, resolve, invoke, builtin, Sem.run_bind, Sem.run_pure, Result.andThen_ok, List.map_toArray, List.map_cons, List.map_nil, hs, hx, hr]
  exact hK _ _ (h v' w' h2 h3 h4)

/-- a block of the call's own, known whole: as the kit's law on appends wants it -/
theorem came_block {w : World} {g size n cap : Nat} {e : TypeId} {cur : Array Value} {olds : List Value} (hg : w.heap[g]? = some (.cells cur e (0, 0))) (hn : n ≤ cap) (hs : cur.size = cap * size) (ho : cur.toList.take (n * size) = olds) :
    Came w size (some ⟨g, 0, none⟩) g 0 n cap olds := by
  have hns : n * size ≤ cap * size := Nat.mul_le_mul_right _ hn
  refine ⟨hn, fun _ => rfl, fun _ => (Array.getElem?_eq_some_iff.1 hg).1, by rw [← ho]; simp; omega, fun j u hu => ?_, fun j hj => ?_⟩
  · rw [← ho, List.getElem?_take] at hu
    split at hu
    · simpa [World.cell?, hg] using hu
    · cases hu
  · have hlt : n * size + j < cur.size := by
      rw [hs]
      have : (cap - n) * size = cap * size - n * size := Nat.sub_mul _ _ _
      omega
    refine ⟨by simp [World.cell?, hg, hlt], ?_⟩
    exact frozen_of_row w g (0 + n * size + j) _ _ hg

/-- what an append (or any step that keeps all but some places) leaves of a block -/
theorem kept_block {w w' : World} {may : MemPlace → Prop} (h : w.keptBut w' may) {g : Nat} {cur : Array Value} {e : TypeId} {fr : Nat × Nat} (hg : w.heap[g]? = some (.cells cur e fr)) :
    ∃ cur', w'.heap[g]? = some (.cells cur' e fr) ∧ cur'.size = cur.size ∧ ∀ j, ¬ may (.cell g j) → cur'[j]? = cur[j]? := by
  have hlt : g < w.heap.size := (Array.getElem?_eq_some_iff.1 hg).1
  have := h.2.2 g hlt
  rw [hg] at this
  cases h' : w'.heap[g]? with
  | none => rw [h'] at this; cases this
  | some o =>
    rw [h'] at this
    cases o with
    | cells c' t' fr' =>
      obtain ⟨rfl, rfl, hs, hc⟩ := this
      exact ⟨c', rfl, hs, hc⟩
    | _ => cases this

/-- a block of the call's own whose first n cells are numbers -/
structure Row (w : World) (g cap : Nat) (k : IntKind) (e : TypeId) (n : Nat) (l : List Nat) : Prop where
  mk :: (out : ∃ cur, w.heap[g]? = some (.cells cur e (0, 0)) ∧ cur.size = cap ∧ n ≤ cap ∧ cap ≤ 9223372036854775807 ∧ cur.toList.take n = vals k l ∧ l.length = n ∧ n ≤ 140737488355328)
theorem Row.below {w w' : World} {g cap n : Nat} {k : IntKind} {e : TypeId} {l : List Nat} (h : Row w g cap k e n l) (hb : Below w.heap.size w w') : Row w' g cap k e n l := by
  obtain ⟨cur, hg, r⟩ := h.out
  exact ⟨cur, heap_below hb hg, r⟩
theorem Row.rd {w : World} {g cap n : Nat} {k : IntKind} {e : TypeId} {l : List Nat} (h : Row w g cap k e n l) : Rd w k (some ⟨g, 0, none⟩) n cap l := by
  obtain ⟨cur, hg, hs, hn, hc, hv, hl, hm⟩ := h.out
  exact Rd.block n cap hg hv hl hn hc hm
theorem Row.own {w : World} {B n : Nat} {e : TypeId} {k : IntKind} {v : Value} {l : List Nat} (h : w.ownsRow B e 1 v n (vals k l)) (h0 : 0 < n) (hn : n ≤ 140737488355328) :
    ∃ g cap, v = .slice (some ⟨g, 0, none⟩) n cap ∧ B ≤ g ∧ Row w g cap k e n l := by
  have hl : l.length = n := by have := h.1; rw [vals_len] at this; omega
  rcases h.2 with ⟨_, h1⟩ | ⟨g, cap, cur, rfl, hB, hg, h1, h2, h3, h4⟩
  · omega
  · exact ⟨g, cap, rfl, hB, cur, hg, by simpa using h3, h1, by simpa [maxLen] using h2, by simpa using h4, hl, hn⟩

theorem Row.set {w : World} {g cap n : Nat} {k : IntKind} {e : TypeId} {l : List Nat} (h : Row w g cap k e n l) (j v : Nat) : Row (w.setCell ⟨g, j, none⟩ (.int k v)) g cap k e n (l.set j v) := by
  obtain ⟨cur, hg, hs, hn, hc, hv, hl, hm⟩ := h.out
  refine ⟨cur.setIfInBounds j (.int k v), heap_setCell_same w g j cur e _ hg, by simpa using hs, hn, hc, ?_, by simpa using hl, hm⟩
  rw [Array.toList_setIfInBounds, List.take_set, hv]
  simp [vals, List.map_set]
theorem Row.far {w : World} {g cap n : Nat} {k : IntKind} {e : TypeId} {l : List Nat} (h : Row w g cap k e n l) (a : Addr) (v : Value) (hne : g ≠ a.block) : Row (w.setCell a v) g cap k e n l := by
  obtain ⟨cur, hg, r⟩ := h.out
  exact ⟨cur, (heap_setCell_other w a g v hne).trans hg, r⟩

theorem Row.cell {w : World} {g cap n : Nat} {k : IntKind} {e : TypeId} {l : List Nat} (h : Row w g cap k e n l) (j : Nat) (hj : j < n) : w.cell? ⟨g, j, none⟩ = some (.int k (nth l j : Nat)) ∧ w.frozen? ⟨g, j, none⟩ = false := by
  obtain ⟨cur, hg, hs, hn, hc, hv, hl, hm⟩ := h.out
  refine ⟨?_, frozen_of_row w g j _ _ hg⟩
  have e := vals_get k l j (by omega)
  rw [← hv, List.getElem?_take, if_pos hj] at e
  simpa [World.cell?, hg] using e
theorem Row.came {w : World} {g cap n : Nat} {k : IntKind} {e : TypeId} {l : List Nat} (h : Row w g cap k e n l) : Came w 1 (some ⟨g, 0, none⟩) g 0 n cap (vals k l) := by
  obtain ⟨cur, hg, hs, hn, hc, hv, hl, hm⟩ := h.out
  exact came_block hg hn (by simpa using hs) (by simpa using hv)
/-- the old row behind an append to it -/
theorem Row.kept {w w' : World} {g cap n : Nat} {k : IntKind} {e e' : TypeId} {l : List Nat} (h : Row w g cap k e n l) {v' : Value} {m : Nat} {ks : List Value} (ho : Onto w e' 1 (some ⟨g, 0, none⟩) g 0 n cap (vals k l) w' v' m ks) : Row w' g cap k e n l := by
  obtain ⟨cur, hg, hs, hn, hc, hv, hl, hm⟩ := h.out
  obtain ⟨cur', hg', hs', hk⟩ := kept_block ho.kept hg
  refine ⟨cur', hg', by omega, hn, hc, ?_, hl, hm⟩
  rw [← hv]
  apply List.ext_getElem?
  intro j
  rw [List.getElem?_take, List.getElem?_take]
  split
  · have := hk j (fun ⟨q, _, _, e⟩ => by injection e with _ e2; omega)
    simpa using this
  · rfl

theorem row_lt {w : World} {g cap n : Nat} {k : IntKind} {e : TypeId} {l : List Nat} (h : Row w g cap k e n l) : g < w.heap.size := by
  obtain ⟨cur, hg, _⟩ := h.out
  exact (Array.getElem?_eq_some_iff.1 hg).1
/-- the kit's word for it -/
theorem Row.toOwn {w : World} {g cap n : Nat} {k : IntKind} {e : TypeId} {l : List Nat} (h : Row w g cap k e n l) (B : Nat) (hB : B ≤ g) : w.ownsRow B e 1 (.slice (some ⟨g, 0, none⟩) n cap) n (vals k l) := by
  obtain ⟨cur, hg, hs, hn, hc, hv, hl, hm⟩ := h.out
  exact ⟨by rw [vals_len]; omega, .inr ⟨g, cap, cur, rfl, hB, hg, hn, by simpa [maxLen] using hc, by simpa using hs, by simpa using hv⟩⟩
/-- a row that another's append does not touch -/
theorem Row.grown {w w' : World} {g cap n : Nat} {k : IntKind} {e : TypeId} {l : List Nat} (h : Row w g cap k e n l) {r : Option Nat} (hg : w.grownBy w' r) (hne : r ≠ some g) : Row w' g cap k e n l := by
  obtain ⟨cur, hh, q⟩ := h.out
  exact ⟨cur, (hg.block g (Array.getElem?_eq_some_iff.1 hh).1 (fun e => hne e.symm)).trans hh, q⟩
/-- behind an append of one number: where the new row lies -/
theorem Row.appended {w w' : World} {g cap n : Nat} {k : IntKind} {e e' : TypeId} {l : List Nat} {v' : Value} {x : Nat} {B : Nat} (hown : w'.ownsRow B e 1 v' (n + 1) (vals k l ++ [.int k x])) (ho : Onto w e' 1 (some ⟨g, 0, none⟩) g 0 n cap (vals k l) w' v' 1 [.int k x]) (he : e' = e) (hn : n + 1 ≤ 140737488355328) :
    ∃ g' c', v' = .slice (some ⟨g', 0, none⟩) (n + 1) c' ∧ (g' = g ∨ w.heap.size ≤ g') ∧ Row w' g' c' k e (n + 1) (l ++ [x]) := by
  subst he
  have e1 : vals k l ++ [.int k x] = vals k (l ++ [x]) := by rw [vals_append]; rfl
  rcases ho.val with ⟨_, hv⟩ | ⟨_, h2⟩
  · rw [e1] at hown
    obtain ⟨g', c', hv', _, hr⟩ := Row.own hown (by omega) hn
    refine ⟨g', c', hv', .inl ?_, hr⟩
    rw [hv] at hv'
    injection hv' with h1 _ _
    injection h1 with h1
    injection h1 with h1
    exact h1.symm
  · rw [e1] at h2
    obtain ⟨g', c', hv', hg', hr⟩ := Row.own h2 (by omega) hn
    exact ⟨g', c', hv', .inr hg', hr⟩

end Go.Proofs.YtelhmddigogmgaaDoor
