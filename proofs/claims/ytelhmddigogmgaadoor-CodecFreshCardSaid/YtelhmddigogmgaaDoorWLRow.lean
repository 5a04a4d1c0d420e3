/-
A block of the call's own that holds lines of 64 bytes: read, a line stored into it, appended to.
-/
import Derived.Test.YtelhmddigogmgaaDoorWApp
import Derived.Test.YtelhmddigogmgaaDoorWSameL
import Derived.Deep.Upon
namespace Go.Proofs.YtelhmddigogmgaaDoor
open Go.RowKit

/-- what a store of several cells makes of a block -/
theorem heap_setCells_at (g : Nat) : ∀ (vs : List Value) (o : Nat) (w : World) (cur : Array Value) (t : TypeId), w.heap[g]? = some (.cells cur t (0, 0)) →
    ∃ cur', (w.setCells g o vs).heap[g]? = some (.cells cur' t (0, 0)) ∧ cur'.size = cur.size ∧ ∀ j, j < cur.size → cur'[j]? = if o ≤ j ∧ j < o + vs.length then vs[j - o]? else cur[j]?
  | [], o, w, cur, t, h => ⟨cur, h, rfl, fun j _ => by rw [if_neg (by simp)]⟩
  | v :: r, o, w, cur, t, h => by
    obtain ⟨cur', h1, h2, h3⟩ := heap_setCells_at g r (o + 1) (w.setCell ⟨g, o, none⟩ v) (cur.setIfInBounds o v) t (heap_setCell_same w g o cur t _ h)
    refine ⟨cur', h1, by simpa using h2, fun j hj => ?_⟩
    rw [h3 j (by simpa using hj)]
    by_cases e : j = o
    · subst e
      rw [if_neg (by omega), if_pos (by simp), Nat.sub_self]
      simp [hj]
    · by_cases hlt : o + 1 ≤ j ∧ j < o + 1 + r.length
      · rw [if_pos hlt, if_pos (by simp; omega), show j - o = (j - (o + 1)) + 1 from by omega]
        simp
      · rw [if_neg hlt, if_neg (by simp; omega), Array.getElem?_setIfInBounds_ne (Ne.symm e)]

/-- line k of a row of lines -/
def seg (l : List Nat) (k : Nat) : List Nat := (l.drop (k * 64)).take 64
/-- line k replaced -/
def put (l : List Nat) (k : Nat) (y : List Nat) : List Nat := l.take (k * 64) ++ (y ++ l.drop (k * 64 + 64))
theorem put_len {l : List Nat} {q k : Nat} {y : List Nat} (hl : l.length = q * 64) (hk : k < q) (hy : y.length = 64) : (put l k y).length = q * 64 := by
  simp [put, hl, hy]; omega
theorem put_get {l : List Nat} {q k : Nat} {y : List Nat} (hl : l.length = q * 64) (hk : k < q) (hy : y.length = 64) (j : Nat) : (put l k y)[j]? = if k * 64 ≤ j ∧ j < k * 64 + 64 then y[j - k * 64]? else l[j]? := by
  have h1 : (l.take (k * 64)).length = k * 64 := by simp; omega
  by_cases h : j < k * 64
  · rw [if_neg (by omega), put, List.getElem?_append_left (by omega), List.getElem?_take, if_pos h]
  · rw [put, List.getElem?_append_right (by omega), h1]
    by_cases h2 : j < k * 64 + 64
    · rw [if_pos (by omega), List.getElem?_append_left (by omega)]
    · rw [if_neg (by omega), List.getElem?_append_right (by omega), List.getElem?_drop, hy]
      congr 1; omega
theorem seg_get (l : List Nat) (k j : Nat) : (seg l k)[j]? = if j < 64 then l[k * 64 + j]? else none := by
  simp [seg, List.getElem?_take, List.getElem?_drop]
theorem seg_put_same {l : List Nat} {q k : Nat} {y : List Nat} (hl : l.length = q * 64) (hk : k < q) (hy : y.length = 64) : seg (put l k y) k = y := by
  apply List.ext_getElem?
  intro j
  rw [seg_get]
  split
  · rw [put_get hl hk hy, if_pos (by omega)]; congr 1; omega
  · rw [List.getElem?_eq_none (by omega)]
theorem seg_put_other {l : List Nat} {q k i : Nat} {y : List Nat} (hl : l.length = q * 64) (hk : k < q) (hy : y.length = 64) (hne : i ≠ k) : seg (put l k y) i = seg l i := by
  apply List.ext_getElem?
  intro j
  rw [seg_get, seg_get]
  split
  · rw [put_get hl hk hy, if_neg (by omega)]
  · rfl
theorem seg_len {l : List Nat} {q k : Nat} (hl : l.length = q * 64) (hk : k < q) : (seg l k).length = 64 := by simp [seg, hl]; omega
theorem seg_append {l m : List Nat} {q k : Nat} (hl : l.length = q * 64) (hk : k < q) : seg (l ++ m) k = seg l k := by
  apply List.ext_getElem?
  intro j
  rw [seg_get, seg_get]
  split
  · rw [List.getElem?_append_left (by omega)]
  · rfl

/-- the line that the statement writes -/
def ln (a b : Nat) : List Nat := a :: b :: List.replicate 62 0
theorem ln_len (a b : Nat) : (ln a b).length = 64 := by simp [ln]
theorem ln_byte (a b : Nat) (ha : a < 256) (hb : b < 256) : ∀ x ∈ ln a b, x < 256 := by
  intro x hx
  simp only [ln, List.mem_cons, List.mem_replicate] at hx
  rcases hx with rfl | rfl | ⟨_, rfl⟩ <;> omega
/-- the first k lines written so -/
def writ (c : Nat) (l : List Nat) : Nat → List Nat
  | 0 => l
  | k + 1 => put (writ c l k) k (ln c (k % 256))
theorem writ_len {l : List Nat} {q : Nat} (c : Nat) (hl : l.length = q * 64) : ∀ k, k ≤ q → (writ c l k).length = q * 64
  | 0, _ => hl
  | k + 1, h => put_len (writ_len c hl k (by omega)) h (ln_len _ _)
theorem writ_seg {l : List Nat} {q : Nat} (c : Nat) (hl : l.length = q * 64) : ∀ k, k ≤ q → ∀ i, i < k → seg (writ c l k) i = ln c (i % 256)
  | 0, _, i, h => by omega
  | k + 1, hk, i, h => by
    by_cases e : i = k
    · subst e; exact seg_put_same (writ_len c hl i (by omega)) hk (ln_len _ _)
    · rw [writ, seg_put_other (writ_len c hl k (by omega)) hk (ln_len _ _) e]; exact writ_seg c hl k (by omega) i (by omega)
theorem put_byte {l y : List Nat} {k : Nat} (hl : ∀ x ∈ l, x < 256) (hy : ∀ x ∈ y, x < 256) : ∀ x ∈ put l k y, x < 256 := by
  intro x hx
  simp only [put, List.mem_append] at hx
  rcases hx with h | h | h
  · exact hl x (List.mem_of_mem_take h)
  · exact hy x h
  · exact hl x (List.mem_of_mem_drop h)
theorem writ_byte {l : List Nat} {c : Nat} (hc : c < 256) (hl : ∀ x ∈ l, x < 256) : ∀ k, ∀ x ∈ writ c l k, x < 256
  | 0 => hl
  | k + 1 => put_byte (writ_byte hc hl k) (ln_byte _ _ hc (by omega))

/-- the block -/
structure LRow (w : World) (g cap q : Nat) (l : List Nat) : Prop where
  mk :: (out : ∃ cur, w.heap[g]? = some (.cells cur 33 (0, 0)) ∧ cur.size = cap * 64 ∧ q ≤ cap ∧ cap ≤ 9223372036854775807 ∧ cur.toList.take (q * 64) = vals .u8 l ∧ l.length = q * 64 ∧ q ≤ 140737488355328 ∧ ∀ x ∈ l, x < 256)
section
variable {w w' : World} {g cap q : Nat} {l : List Nat}
theorem LRow.below (h : LRow w g cap q l) (hb : Below w.heap.size w w') : LRow w' g cap q l := by
  obtain ⟨cur, hg, r⟩ := h.out
  exact ⟨cur, heap_below hb hg, r⟩
theorem LRow.lt (h : LRow w g cap q l) : g < w.heap.size := by
  obtain ⟨cur, hg, _⟩ := h.out
  exact (Array.getElem?_eq_some_iff.1 hg).1
theorem LRow.len (h : LRow w g cap q l) : l.length = q * 64 := by obtain ⟨cur, hg, h1, h2, h3, h4, h5, h6, h7⟩ := h.out; exact h5
theorem LRow.byte (h : LRow w g cap q l) : ∀ x ∈ l, x < 256 := by obtain ⟨cur, hg, h1, h2, h3, h4, h5, h6, h7⟩ := h.out; exact h7
theorem LRow.range (h : LRow w g cap q l) : w.rangeAt g 0 (vals .u8 l) := by
  obtain ⟨cur, hg, h1, h2, h3, h4, h5, h6, h7⟩ := h.out
  intro j u hu
  have hj : j < l.length := by
    have : j < (vals .u8 l).length := (List.getElem?_eq_some_iff.1 hu).1
    rwa [vals_len] at this
  have e : (cur.toList.take (q * 64))[j]? = some u := by rw [h4]; exact hu
  rw [List.getElem?_take, if_pos (by omega)] at e
  simpa [World.cell?, hg] using e
theorem LRow.there (h : LRow w g cap q l) (k : Nat) (hk : k < q) : w.there g (k * 64) 64 := by
  have hr := h.range
  have hl := h.len
  obtain ⟨cur, hg, _⟩ := h.out
  intro j hj
  refine ⟨?_, frozen_of_row w g (k * 64 + j) _ _ hg⟩
  have hlt : k * 64 + j < l.length := by rw [hl]; omega
  have := hr (k * 64 + j) _ (vals_get .u8 l _ hlt)
  rw [Nat.zero_add] at this
  rw [this]; rfl
theorem LRow.at_ (h : LRow w g cap q l) (k : Nat) (hk : k < q) : w.rangeAt g (k * 64) (vals .u8 (seg l k)) := Ln.seg h.range hk h.len
theorem LRow.ln (h : LRow w g cap q l) : Ln w (some ⟨g, 0, none⟩) q l := by
  have hr := h.range
  obtain ⟨cur, hg, h1, h2, h3, h4, h5, h6, h7⟩ := h.out
  exact ⟨h5, h6, h7, fun _ => ⟨g, rfl, hr⟩⟩
theorem LRow.own {B : Nat} {v : Value} (h : w.ownsRow B 33 64 v q (vals .u8 l)) (h0 : 0 < q) (hn : q ≤ 140737488355328) (hx : ∀ x ∈ l, x < 256) :
    ∃ g cap, v = .slice (some ⟨g, 0, none⟩) q cap ∧ B ≤ g ∧ LRow w g cap q l := by
  have hl : l.length = q * 64 := by have := h.1; rw [vals_len] at this; omega
  rcases h.2 with ⟨_, h1⟩ | ⟨g, cap, cur, rfl, hB, hg, h1, h2, h3, h4⟩
  · omega
  · exact ⟨g, cap, rfl, hB, cur, hg, by omega, h1, by simpa [maxLen] using h2, by rw [show q * 64 = 64 * q from by omega]; simpa [Nat.mul_comm] using h4, hl, hn, hx⟩
theorem LRow.toOwn (h : LRow w g cap q l) (B : Nat) (hB : B ≤ g) : w.ownsRow B 33 64 (.slice (some ⟨g, 0, none⟩) q cap) q (vals .u8 l) := by
  obtain ⟨cur, hg, h1, h2, h3, h4, h5, h6, h7⟩ := h.out
  exact ⟨by rw [vals_len]; omega, .inr ⟨g, cap, cur, rfl, hB, hg, h2, by simpa [maxLen] using h3, by omega, by simpa [Nat.mul_comm] using h4⟩⟩
theorem LRow.came (h : LRow w g cap q l) : Came w 64 (some ⟨g, 0, none⟩) g 0 q cap (vals .u8 l) := by
  obtain ⟨cur, hg, h1, h2, h3, h4, h5, h6, h7⟩ := h.out
  exact came_block hg h2 h1 h4
theorem LRow.far (h : LRow w g cap q l) (g' o : Nat) (vs : List Value) (hne : g ≠ g') : LRow (w.setCells g' o vs) g cap q l := by
  have hlt := h.lt
  obtain ⟨cur, hg, r⟩ := h.out
  exact ⟨cur, (World.heap_setCells_other w g' o vs hlt hne).trans hg, r⟩
theorem LRow.set (h : LRow w g cap q l) (k : Nat) (hk : k < q) (y : List Nat) (hy : y.length = 64) (hb : ∀ x ∈ y, x < 256) : LRow (w.setCells g (k * 64) (vals .u8 y)) g cap q (put l k y) := by
  obtain ⟨cur, hg, h1, h2, h3, h4, h5, h6, h7⟩ := h.out
  obtain ⟨cur', e1, e2, e3⟩ := heap_setCells_at g (vals .u8 y) (k * 64) w cur 33 hg
  have hq : q * 64 ≤ cap * 64 := Nat.mul_le_mul_right _ h2
  refine ⟨cur', e1, by omega, h2, h3, ?_, put_len h5 hk hy, h6, put_byte h7 hb⟩
  apply List.ext_getElem?
  intro j
  rw [List.getElem?_take]
  have h4j : (cur.toList.take (q * 64))[j]? = (vals .u8 l)[j]? := by rw [h4]
  rw [List.getElem?_take] at h4j
  by_cases hj : j < q * 64
  · rw [if_pos hj] at h4j ⊢
    rw [show cur'.toList[j]? = cur'[j]? from by simp, e3 j (by omega), vals_len, hy]
    simp only [vals, List.getElem?_map, put_get h5 hk hy]
    split
    · rfl
    · rw [show cur[j]? = cur.toList[j]? from by simp, h4j]; simp [vals]
  · rw [if_neg hj]
    simp only [vals, List.getElem?_map]
    rw [List.getElem?_eq_none (by rw [put_len h5 hk hy]; omega)]
    rfl
theorem LRow.grown (h : LRow w g cap q l) {r : Option Nat} (hg : w.grownBy w' r) (hne : r ≠ some g) : LRow w' g cap q l := by
  obtain ⟨cur, hh, p⟩ := h.out
  exact ⟨cur, (hg.block g (Array.getElem?_eq_some_iff.1 hh).1 (fun e => hne e.symm)).trans hh, p⟩
theorem LRow.kept (h : LRow w g cap q l) {e' : TypeId} {v' : Value} {m : Nat} {ks : List Value} (ho : Onto w e' 64 (some ⟨g, 0, none⟩) g 0 q cap (vals .u8 l) w' v' m ks) : LRow w' g cap q l := by
  obtain ⟨cur, hg, h1, h2, h3, h4, h5, h6, h7⟩ := h.out
  obtain ⟨cur', hg', hs', hk⟩ := kept_block ho.kept hg
  refine ⟨cur', hg', by omega, h2, h3, ?_, h5, h6, h7⟩
  rw [← h4]
  apply List.ext_getElem?
  intro j
  rw [List.getElem?_take, List.getElem?_take]
  split
  · have := hk j (fun ⟨p, _, _, e⟩ => by injection e with _ e2; omega)
    simpa using this
  · rfl
theorem LRow.appended {v' : Value} {y : List Nat} {B : Nat} (hown : w'.ownsRow B 33 64 v' (q + 1) (vals .u8 l ++ vals .u8 y)) (ho : Onto w 33 64 (some ⟨g, 0, none⟩) g 0 q cap (vals .u8 l) w' v' 1 (vals .u8 y)) (hn : q + 1 ≤ 140737488355328) (hx : ∀ x ∈ l ++ y, x < 256) :
    ∃ g' c', v' = .slice (some ⟨g', 0, none⟩) (q + 1) c' ∧ (g' = g ∨ w.heap.size ≤ g') ∧ LRow w' g' c' (q + 1) (l ++ y) := by
  rw [← vals_append] at hown
  rcases ho.val with ⟨_, hv⟩ | ⟨_, h2⟩
  · obtain ⟨g', c', hv', _, hr⟩ := LRow.own hown (by omega) hn hx
    refine ⟨g', c', hv', .inl ?_, hr⟩
    rw [hv] at hv'
    injection hv' with h1 _ _
    injection h1 with h1
    injection h1 with h1
    exact h1.symm
  · rw [← vals_append] at h2
    obtain ⟨g', c', hv', hg', hr⟩ := LRow.own h2 (by omega) hn hx
    exact ⟨g', c', hv', .inr hg', hr⟩
end
theorem below_setCells {B : Nat} {a w : World} (h : Below B a w) {g : Nat} (hg : B ≤ g) : ∀ (vs : List Value) (o : Nat), Below B a (w.setCells g o vs) := by
  intro vs
  induction vs generalizing w with
  | nil => intro o; exact h
  | cons v r ih => intro o; exact ih (h.setCell (by simpa using hg) v) (o + 1)
theorem Row.farS {w : World} {g cap n : Nat} {k : IntKind} {e : TypeId} {l : List Nat} (h : Row w g cap k e n l) (g' o : Nat) (vs : List Value) (hne : g ≠ g') : Row (w.setCells g' o vs) g cap k e n l := by
  have hlt := row_lt h
  obtain ⟨cur, hg, r⟩ := h.out
  exact ⟨cur, (World.heap_setCells_other w g' o vs hlt hne).trans hg, r⟩

end Go.Proofs.YtelhmddigogmgaaDoor
