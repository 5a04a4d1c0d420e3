/-
append onto a row of the call's own, told so that the old value reads as before; a row of things that lie apart in memory, through a step.
-/
import Derived.Test.YtfljnfmocmhhdaaLLent
namespace Go.Proofs.Ytfljnfmocmhhdaa
open Go.RowKit

theorem run_append_keep {P : Program} (w : World) (base : Nat) (t ty e : TypeId) (i : TypeInfo) (z : Value) (size bytes : Nat) (ht : P.underlying t = some (.slice e)) (hi : P.info? e = some i) (hz : i.zero = some z)
    (hsize : i.size = size) (hby : i.bytes = bytes) (hzs : z.cells.size = size) (hsz : 0 < size)
    (v : Value) (n : Nat) (xs : List Value) (hown : w.ownsRow base e size v n xs)
    (a : Addr) (m c : Nat) (news : List Value) (hl : news.length = m * size) (hnews : ∀ j u, news[j]? = some u → w.cell? (a.add j) = some u) (h1 : ∀ u ∈ news, u.oneCell' = true)
    (h63 : n + m ≤ maxLen) (hbytes : (n + m) * bytes ≤ 140737488355328) (hbase : base ≤ w.heap.size) :
    ∃ v' w', (Builtin.append_ #[t, t] ty #[v, .slice (some a) m c]).run P w = .ok v' w' ∧ w'.ownsRow base e size v' (n + m) (xs ++ news) ∧ w.grownBy w' v.ownBlock ∧ w'.ownsRow base e size v n xs ∧
      ∀ k, v'.ownBlock = some k → v.ownBlock = some k ∨ k = w.heap.size := by
  obtain ⟨v', w', hr, h2, h3, h4⟩ := run_append_own (P := P) w base t ty e i z size bytes ht hi hz hsize hby hzs hsz v n xs hown a m c news hl hnews h1 h63 hbytes hbase
  refine ⟨v', w', hr, h2, h3, ?_⟩
  subst hsize
  subst hby
  have hsmall : n + m ≤ 9223372036854775807 := by simp only [maxLen] at h63; omega
  rcases hown.2 with ⟨rfl, rfl⟩ | ⟨g, cap, cur, rfl, hbg, hg, hnc, hcm, hcs, htake⟩
  · have hx : xs = [] := List.eq_nil_of_length_eq_zero (by simpa using hown.1)
    subst hx
    refine ⟨World.ownsRow_nil _ _ _ _, fun k hk => .inr ?_⟩
    by_cases hm : m = 0
    · subst hm
      have hv := h4.2 ⟨rfl, rfl⟩
      rw [hv] at hk
      cases hk
    · have hr2 := run_append_nil (P := P) w t ty e i z ht hi hz a m c news hl hnews (by omega) (by omega) (by have hb := hbytes; simp only [Nat.zero_add] at hb; omega)
      have he := hr.symm.trans hr2
      injection he with he1 he2
      rw [he1] at hk
      exact (Option.some.inj hk).symm
  · by_cases hroom : n + m ≤ cap
    · have hfit : n * i.size + news.length ≤ cur.size := by rw [hl, hcs, ← Nat.add_mul]; exact Nat.mul_le_mul_right _ hroom
      have hr2 := run_append_room (P := P) w t ty e i ht hi g n cap cur hg a m c news hl hnews h1 hroom hfit
      have he := hr.symm.trans hr2
      injection he with he1 he2
      have hxl := hown.1
      refine ⟨⟨hown.1, .inr ⟨g, cap, _, rfl, hbg, by rw [he2]; exact setRow_heap w g cur _ e _ hg, hnc, hcm, ?_, ?_⟩⟩, fun k hk => .inl ?_⟩
      · simp only [List.size_toArray, List.length_append, List.length_take, List.length_drop, Array.length_toList]
        omega
      · rw [htake, List.append_assoc, ← hxl]
        exact List.take_left
      · rw [he1] at hk
        exact hk
    · have holds : ∀ j u, xs[j]? = some u → w.cell? ((⟨g, 0, none⟩ : Addr).add j) = some u := hown.cells (g := g) rfl
      have hr2 := run_append_grow (P := P) w t ty e i z ht hi hz ⟨g, 0, none⟩ n cap xs hown.1 holds a m c news hl hnews (by omega) (by omega) (growslice_fits (by omega) hbytes)
      have he := hr.symm.trans hr2
      injection he with he1 he2
      refine ⟨⟨hown.1, .inr ⟨g, cap, cur, rfl, hbg, by rw [he2]; exact (heap_alloc_old w.drew _ (heap_lt hg)).trans hg, hnc, hcm, hcs, htake⟩⟩, fun k hk => .inr ?_⟩
      rw [he1] at hk
      exact (Option.some.inj hk).symm

theorem wpList_append_keep {P : Program} (w : World) {ops : Array Oper} {rest : List Oper} {o : Oper} {a : Act} {Q : Exit → Act → World → Prop} (hgd : o.guard = none) (s x : Operand) (t : TypeId)
    (ho : o.op = .call { callee := .builtin .append, args := #[s, x], argTypes := #[t, t] })
    (base : Nat) (e : TypeId) (i : TypeInfo) (z : Value) (size bytes : Nat) (ht : P.underlying t = some (.slice e)) (hi : P.info? e = some i) (hz : i.zero = some z)
    (hsize : i.size = size) (hby : i.bytes = bytes) (hzs : z.cells.size = size) (hsz : 0 < size)
    (v : Value) (n : Nat) (xs : List Value) (hs : a.eval s = v) (hown : w.ownsRow base e size v n xs)
    (ad : Addr) (m c : Nat) (news : List Value) (hx : a.eval x = .slice (some ad) m c) (hl : news.length = m * size) (hnews : ∀ j u, news[j]? = some u → w.cell? (ad.add j) = some u) (h1 : ∀ u ∈ news, u.oneCell' = true)
    (h63 : n + m ≤ maxLen) (hbytes : (n + m) * bytes ≤ 140737488355328) (hbase : base ≤ w.heap.size)
    (h : ∀ v' w', w'.ownsRow base e size v' (n + m) (xs ++ news) → w.grownBy w' v.ownBlock → w'.ownsRow base e size v n xs → (∀ k, v'.ownBlock = some k → v.ownBlock = some k ∨ k = w.heap.size) → wpList P ops Q rest (a.put o.dst v') w') : wpList P ops Q (o :: rest) a w := by
  refine wpList_plain hgd fun _ hK => ?_
  obtain ⟨v', w', hr, h2, h3, h4, h5⟩ := run_append_keep (P := P) w base t o.type e i z size bytes ht hi hz hsize hby hzs hsz v n xs hown ad m c news hl hnews h1 h63 hbytes hbase
  unfold Oper.wp execOp
  simp only [ho, resolve, invoke, builtin, Sem.run_bind, Sem.run_pure, Result.andThen_ok, List.map_toArray, List.map_cons, List.map_nil, hs, hx, hr]
  exact hK _ _ (h v' w' h2 h3 h4 h5)

/-- the blocks from lo up to hi -/
abbrev rg (lo hi : Nat) : Nat → Prop := fun b => lo ≤ b ∧ b < hi
/-- a tree, and the blocks that it may lie in -/
structure TE where
  D : Nat → Prop
  r : Nat
  f : Nat → Int
  lb : Nat → Nat
/-- a slice of the call's own, and the blocks that it may lie in -/
structure RE where
  D : Nat → Prop
  base : Nat
  e : TypeId
  s : Nat
  v : Value
  n : Nat
  xs : List Value
def TE.In (x : TE) (W : World) : Prop := TreeI W x.r x.f x.lb ∧ ∀ b, x.lb b ≠ 0 → x.D b
def RE.In (x : RE) (W : World) : Prop := W.ownsRow x.base x.e x.s x.v x.n x.xs ∧ ∀ k, x.v.ownBlock = some k → x.D k
/-- the things that a world holds -/
structure Ap (w : World) (T : List TE) (R : List RE) (W : World) : Prop where
  trees : ∀ x ∈ T, x.In W
  rows : ∀ x ∈ R, x.In W
  bel : Below w.heap.size w W
section
variable {w W W' : World} {T T' : List TE} {R R' : List RE}
theorem TE.In.chg {x : TE} {D : Nat → Prop} (h : x.In W) (hc : Chg D W W') (hn : ∀ b, x.D b → ¬ D b) : x.In W' := ⟨h.1.chg hc (fun b hb => hn b (h.2 b hb)), h.2⟩
theorem RE.In.chg {x : RE} {D : Nat → Prop} (h : x.In W) (hc : Chg D W W') (hn : ∀ b, x.D b → ¬ D b) : x.In W' := ⟨own_chg h.1 hc (fun k hk => hn k (h.2 k hk)), h.2⟩
theorem Ap.chg (h : Ap w T R W) {D : Nat → Prop} (hc : Chg D W W') (hT : ∀ x ∈ T, ∀ b, x.D b → ¬ D b) (hR : ∀ x ∈ R, ∀ b, x.D b → ¬ D b) (hw : ∀ b, D b → w.heap.size ≤ b) : Ap w T R W' :=
  ⟨fun x hx => (h.trees x hx).chg hc (hT x hx), fun x hx => (h.rows x hx).chg hc (hR x hx), h.bel.trans (hc.below _ h.bel.size (fun b h1 h2 => by have := hw b h2; omega))⟩
theorem Ap.below (h : Ap w T R W) (hb : Below W.heap.size W W') : Ap w T R W' :=
  ⟨fun x hx => (h.trees x hx).chg (Chg.of_below (fun _ => False) hb) (fun _ _ h => h), fun x hx => (h.rows x hx).chg (Chg.of_below (fun _ => False) hb) (fun _ _ h => h), below_lift h.bel hb⟩
theorem Ap.tree (h : Ap w T R W) (x : TE) (hx : x.In W) : Ap w (x :: T) R W := ⟨fun y hy => by rcases List.mem_cons.1 hy with rfl | hy; exact hx; exact h.trees y hy, h.rows, h.bel⟩
theorem Ap.row (h : Ap w T R W) (x : RE) (hx : x.In W) : Ap w T (x :: R) W := ⟨h.trees, fun y hy => by rcases List.mem_cons.1 hy with rfl | hy; exact hx; exact h.rows y hy, h.bel⟩
theorem Ap.sub (h : Ap w T R W) (hT : ∀ x ∈ T', x ∈ T) (hR : ∀ x ∈ R', x ∈ R) : Ap w T' R' W := ⟨fun x hx => h.trees x (hT x hx), fun x hx => h.rows x (hR x hx), h.bel⟩
end
/-- what a row of runs of the call's own reads as -/
theorem RdR.of_own {w : World} {B : Nat} {A : Option Addr} {n c : Nat} {l : List Run} (h : w.ownsRow B 66 3 (.slice A n c) n (cellsR l)) (hl : l.length = n) (hn : n * 24 ≤ 140737488355328) : RdR w A n c l := by
  subst hl
  obtain ⟨A', c', e, hr, _⟩ := RdR.own h hn
  injection e with e1 e2 e3
  subst e1 e3
  exact hr
theorem RdI.of_own {w : World} {B : Nat} {A : Option Addr} {n c : Nat} {l : List Int} (h : w.ownsRow B 3 1 (.slice A n c) n (l.map fun x => .int .i64 x)) (hl : l.length = n) (hn : n ≤ 140737488355328) : RdI w A n c l := by
  subst hl
  obtain ⟨A', c', e, hr⟩ := RdI.own h hn
  injection e with e1 e2 e3
  subst e1 e3
  exact hr

end Go.Proofs.Ytfljnfmocmhhdaa
