/-
append onto a row of the call's own, the source nil or not, told by the source's own reading.
-/
import Derived.Test.YtfljnfmocmhhdaaLoadRuns
import Derived.Deep.AppendLies
import Derived.Laws.AppendOwnNone
namespace Go.Proofs.Ytfljnfmocmhhdaa
open Go.RowKit

/-- a slice value whose elements' cells are these -/
def SrcV (w : World) (A : Option Addr) (m c size : Nat) (news : List Value) : Prop :=
  news.length = m * size ∧ (A = none → m = 0 ∧ c = 0) ∧ ∀ ad, A = some ad → ∀ j u, news[j]? = some u → w.cell? (ad.add j) = some u

theorem SrcV.below {w w' : World} {A : Option Addr} {m c size : Nat} {news : List Value} (h : SrcV w A m c size news) (hb : Below w.heap.size w w') : SrcV w' A m c size news :=
  ⟨h.1, h.2.1, fun ad e j u hj => by
    have := h.2.2 ad e j u hj
    rw [← this]
    exact World.cell?_of_block (hb.block _ (World.block_lt_of_cell? w _ this))⟩

theorem wpList_append_src {P : Program} (w : World) {ops : Array Oper} {rest : List Oper} {o : Oper} {a : Act} {Q : Exit → Act → World → Prop} (hgd : o.guard = none) (s x : Operand) (t : TypeId)
    (ho : o.op = .call { callee := .builtin .append, args := #[s, x], argTypes := #[t, t] })
    (base : Nat) (e : TypeId) (i : TypeInfo) (z : Value) (size bytes : Nat) (ht : P.underlying t = some (.slice e)) (hi : P.info? e = some i) (hz : i.zero = some z)
    (hsize : i.size = size) (hby : i.bytes = bytes) (hzs : z.cells.size = size) (hsz : 0 < size)
    (v : Value) (n : Nat) (xs : List Value) (hs : a.eval s = v) (hown : w.ownsRow base e size v n xs)
    (A : Option Addr) (m c : Nat) (news : List Value) (hx : a.eval x = .slice A m c) (hsrc : SrcV w A m c size news) (h1 : ∀ u ∈ news, u.oneCell' = true)
    (h63 : n + m ≤ maxLen) (hbytes : (n + m) * bytes ≤ 140737488355328) (hbase : base ≤ w.heap.size)
    (h : ∀ v' w', w'.ownsRow base e size v' (n + m) (xs ++ news) → w.grownBy w' v.ownBlock → wpList P ops Q rest (a.put o.dst v') w') : wpList P ops Q (o :: rest) a w := by
  rcases A with _ | ad
  · obtain ⟨rfl, rfl⟩ := hsrc.2.1 rfl
    obtain rfl : news = [] := List.eq_nil_of_length_eq_zero (by have := hsrc.1; omega)
    exact wpList_append_own_none hgd s x t ho base e i size ht hi v n xs hs hown hx (h v w (by simpa using hown) (World.grownBy.refl w _))
  · exact wpList_append_own w hgd s x t ho base e i z size bytes ht hi hz hsize hby hzs hsz v n xs hs hown ad m c news hx hsrc.1 (hsrc.2.2 ad rfl) h1 h63 hbytes hbase (fun v' w' h2 h3 _ => h v' w' h2 h3)

theorem RdR.src {w : World} {A : Option Addr} {n c : Nat} {l : List Run} (h : RdR w A n c l) (hA : A = none → c = 0) : SrcV w A n c 3 (cellsR l) := by
  obtain ⟨h1, h2, h3, h4, h5⟩ := h
  refine ⟨by rw [cellsR_len, h1], fun e => ⟨by have := hA e; omega, hA e⟩, fun ad e j u hj => ?_⟩
  rcases h5 with h0 | ⟨b, off, e', hh⟩
  · have := (List.getElem?_eq_some_iff.1 hj).1
    rw [cellsR_len, h1] at this
    omega
  · rw [e'] at e
    injection e with e
    subst e
    rw [Go.WideShapes.add_plain]
    exact hh j u hj

theorem below_grown {B : Nat} {W W3 : World} {v : Value} {n s : Nat} {e : TypeId} {xs : List Value} {o : Obj} (ho : W.ownsRow B e s v n xs) (hB : B ≤ W.heap.size) (hg : (W.alloc o).grownBy W3 v.ownBlock) : Below B W W3 :=
  (((Chg.refl (fun b => v.ownBlock = some b) W).alloc o).grown hg (fun k e _ => e)).below _ hB (fun b hb e => by have := (ho.lt _ e).1; omega)
theorem below_grown0 {B : Nat} {W W3 : World} {v : Value} {n s : Nat} {e : TypeId} {xs : List Value} (ho : W.ownsRow B e s v n xs) (hB : B ≤ W.heap.size) (hg : W.grownBy W3 v.ownBlock) : Below B W W3 :=
  ((Chg.refl (fun b => v.ownBlock = some b) W).grown hg (fun k e _ => e)).below _ hB (fun b hb e => by have := (ho.lt _ e).1; omega)

end Go.Proofs.Ytfljnfmocmhhdaa
