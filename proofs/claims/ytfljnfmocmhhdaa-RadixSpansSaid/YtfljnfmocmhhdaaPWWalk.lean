/-
walk of a copied tree of spans: it hands on the offsets that are no holes, rising.
-/
import Derived.Test.YtfljnfmocmhhdaaPCopy
import Derived.Test.YtfljnfmocmhhdaaPWSet
import Derived.Test.YtfljnfmocmhhdaaPIter
import Derived.Stop.RegionWithIn
import Derived.RangeFuncNested
import Derived.RangeFuncBound
import Derived.RangeFuncCalls
import Derived.RangeFuncLeaves
import Derived.Shelf.Abstract
import Derived.Shelf.RegionOpen
import Derived.OwnWalkIn
import Derived.TacticsInMore
import Derived.LoopNIn
import Derived.LoopIn
namespace Go.Proofs.Ytfljnfmocmhhdaa.Spn
open Go.RowKit Go.Shelf
attribute [local go_sem] Oper.semAt_some

/-- what stands in the first n places of F, from off on -/
def items (F : Nat → Int × Int) (base : Nat) (off : Int) (n : Nat) : List (Nat × (Int × Int)) := (List.range n).filterMap fun i => if off ≤ ((base + i : Nat) : Int) ∧ F i ≠ (0, 0) then some (base + i, F i) else none
def encI (x : Nat × (Int × Int)) : Array Value := #[.int .i64 x.1, sp x.2]
theorem items_succ (F : Nat → Int × Int) (base : Nat) (off : Int) (n : Nat) : items F base off (n + 1) = items F base off n ++ if off ≤ ((base + n : Nat) : Int) ∧ F n ≠ (0, 0) then [(base + n, F n)] else [] := by
  unfold items
  rw [List.range_succ, List.filterMap_append]
  by_cases h : off ≤ ((base + n : Nat) : Int) ∧ F n ≠ (0, 0)
  · rw [if_pos h]; simp only [List.filterMap_cons, if_pos h, List.filterMap_nil]
  · rw [if_neg h]; simp only [List.filterMap_cons, if_neg h, List.filterMap_nil]
theorem items_add (F : Nat → Int × Int) (base : Nat) (off : Int) (n : Nat) : ∀ m, items F base off (n + m) = items F base off n ++ items (fun i => F (n + i)) (base + n) off m
  | 0 => by simp [items]
  | m + 1 => by
    rw [show n + (m + 1) = (n + m) + 1 from rfl, items_succ, items_add F base off n m, items_succ, List.append_assoc, show base + n + m = base + (n + m) by omega]
theorem items_none (F : Nat → Int × Int) (base : Nat) (off : Int) : ∀ m : Nat, ((base : Int) + m ≤ off ∨ ∀ i, i < m → F i = (0, 0)) → items F base off m = []
  | 0, _ => rfl
  | m + 1, h => by
    rw [items_succ, items_none F base off m (h.elim (fun h => .inl (by omega)) (fun h => .inr fun i hi => h i (by omega))), if_neg (by
      rintro ⟨h1, h2⟩
      rcases h with h | h
      · omega
      · exact h2 (h m (by omega)))]
    rfl

theorem items_pre (F : Nat → Int × Int) (base : Nat) (off : Int) {i n : Nat} (h : i ≤ n) : items F base off i <+: items F base off n := by
  obtain ⟨m, rfl⟩ : ∃ m, n = i + m := ⟨n - i, by omega⟩
  rw [items_add]
  exact List.prefix_append _ _
/-- what a call of yield does -/
def YPost (J : (Nat → Prop) → List (Nat × (Int × Int)) → World → Prop) (Jx : List (Nat × (Int × Int)) → World → Prop) (s : Nat) (O : Nat → Prop) (ys : List (Nat × (Int × Int))) (W : World) (e : Ending) (W' : World) : Prop :=
  ∃ b : Bool, e = .returned (.bool b) ∧ ((b = true ∧ (∃ O', J O' ys W' ∧ Grew W.heap.size O O') ∧ W.heap.size ≤ W'.heap.size ∧ KeptO s O W W') ∨ (b = false ∧ Jx ys W'))
/-- between two rounds of a walk -/
def WI (J : (Nat → Prop) → List (Nat × (Int × Int)) → World → Prop) (s : Nat) (O : Nat → Prop) (W : World) (ys : List (Nat × (Int × Int))) (W' : World) : Prop :=
  ∃ O', J O' ys W' ∧ Grew W.heap.size O O' ∧ W.heap.size ≤ W'.heap.size ∧ KeptO s O W W'
/-- what a walk does -/
def WPost (J : (Nat → Prop) → List (Nat × (Int × Int)) → World → Prop) (Jx : List (Nat × (Int × Int)) → World → Prop) (s : Nat) (O : Nat → Prop) (pre ys : List (Nat × (Int × Int))) (W : World) (e : Ending) (W' : World) : Prop :=
  (e = .returned (.bool true) ∧ WI J s O W (pre ++ ys) W') ∨ (e = .returned (.bool false) ∧ ∃ q, q <+: ys ∧ Jx (pre ++ q) W')
theorem WI.start {J : (Nat → Prop) → List (Nat × (Int × Int)) → World → Prop} {s : Nat} {O : Nat → Prop} {W : World} {ys : List (Nat × (Int × Int))} (h : J O ys W) : WI J s O W ys W := ⟨O, h, Grew.refl _ _, Nat.le_refl _, KeptO.refl _ _ _⟩
/-- one step more -/
theorem WI.step {J : (Nat → Prop) → List (Nat × (Int × Int)) → World → Prop} {s : Nat} {O O1 O2 : Nat → Prop} {W W1 W2 : World} {ys : List (Nat × (Int × Int))} (hg : Grew W.heap.size O O1) (hz : W.heap.size ≤ W1.heap.size) (hk : KeptO s O W W1)
    (h2 : J O2 ys W2) (hg2 : Grew W1.heap.size O1 O2) (hz2 : W1.heap.size ≤ W2.heap.size) (hk2 : KeptO s O1 W1 W2) : WI J s O W ys W2 :=
  ⟨O2, h2, hg.trans hg2 hz, Nat.le_trans hz hz2, hk.trans hz hk2 hg⟩
theorem WI.below {J : (Nat → Prop) → List (Nat × (Int × Int)) → World → Prop} {s : Nat} {O : Nat → Prop} {W W' X : World} {ys : List (Nat × (Int × Int))} (hJs : ∀ O pre A B, J O pre A → Below A.heap.size A B → J O pre B) (h : WI J s O W ys W') (hb : Below W'.heap.size W' X) : WI J s O W ys X := by
  obtain ⟨O', h1, h2, h3, h4⟩ := h
  exact ⟨O', hJs _ _ _ _ h1 hb, h2, Nat.le_trans h3 hb.size, h4.trans h3 (KeptO.of_below _ _ hb) (Grew.refl _ O)⟩
/-- out of the walk's own frame: the box of none is gone -/
theorem WI.out {J : (Nat → Prop) → List (Nat × (Int × Int)) → World → Prop} {s : Nat} {O : Nat → Prop} {W W' : World} {o : Obj} {ys : List (Nat × (Int × Int))} (h : WI J s O (W.alloc o) ys W') : WI J s O W ys W' := by
  obtain ⟨O', h1, h2, h3, h4⟩ := h
  have hs : (W.alloc o).heap.size = W.heap.size + 1 := by simp
  exact ⟨O', h1, fun b hb => (h2 b hb).imp id (fun e => by omega), by omega, fun b hb1 hb2 hb3 => (h4 b hb1 (by omega) hb3).trans (Below.heap_alloc _ _ _ hb2)⟩
/-- the box of none, and a block that the loop's body does not own, between two rounds -/
theorem WI.box {J : (Nat → Prop) → List (Nat × (Int × Int)) → World → Prop} {s : Nat} {O : Nat → Prop} {W W' : World} {ys : List (Nat × (Int × Int))} (h : WI J s O (W.alloc (.cells #[.int .i64 0, .int .i64 0] 56)) ys W') (hs : s ≤ W.heap.size) (hd : ∀ b, O b → b < W.heap.size) :
    W'.cell? ⟨W.heap.size, 0, none⟩ = some (.int .i64 0) ∧ W'.cell? ⟨W.heap.size, 1, none⟩ = some (.int .i64 0) := by
  obtain ⟨O', h1, h2, h3, h4⟩ := h
  have hb := (h4 W.heap.size hs (by simp) (fun e => by have := hd _ e; omega)).trans (heap_alloc_new W _)
  rw [cell_of_row _ _ _ _ _ _ hb, cell_of_row _ _ _ _ _ _ hb]
  exact ⟨rfl, rfl⟩
theorem WI.node {J : (Nat → Prop) → List (Nat × (Int × Int)) → World → Prop} {s : Nat} {O : Nat → Prop} {W W' : World} {o : Obj} {ys : List (Nat × (Int × Int))} (h : WI J s O (W.alloc o) ys W') {g : Nat} {p : Nat → Option Nat} {v : Nat → Int × Int} (hn : NodeI W g p v) (hs : s ≤ g) (hO : ¬ O g) : NodeI W' g p v := by
  obtain ⟨O', h1, h2, h3, h4⟩ := h
  have hlt := hn.lt
  exact (h4 g hs (by simp; omega) hO).trans ((Below.heap_alloc _ _ _ hlt).trans hn)

/-- takeD, inside a fence -/
theorem takeIn {F : Fence} {n : Nat} {P : Program} {md : Region.Mode} {ops : Array Oper} {Q : Exit → Act → World → Prop} {i : Nat} {oi : Oper} (d : Tmp) {v : Value} {fuel : Nat} {listed : Array Bool} {a : Act} {w : World} (hro : F.round = none) (hi : ops[i]? = some oi)
    (hd : oi.dst = some d) (hs : Region.noSelect ops = true) (hf : Region.free md ops listed i = true) (hr : (Region.ready md ops listed).contains i = true)
    (hQ : ∀ c a w, Q (.panic c) (a.put oi.dst v) w → Q (.panic c) a w) (hy : YieldsFenced P ops oi v a)
    (h : wpAnyIn F n P md ops Q fuel (listed.setIfInBounds i true) (a.put (some d) v) w) : wpAnyIn F n P md ops Q (fuel + 1) listed a w :=
  wpAnyIn_take hro hi hs hf hr hQ hy (by rw [hd]; exact h)

set_option maxRecDepth 100000 in
set_option maxHeartbeats 4000000 in
theorem walk_leaf (l s : Nat) (off : Int) (xs : List (Nat × (Int × Int))) (J : (Nat → Prop) → List (Nat × (Int × Int)) → World → Prop) (Jx : List (Nat × (Int × Int)) → World → Prop)
    (hJs : ∀ O pre A B, J O pre A → Below A.heap.size A B → J O pre B) (hJd : ∀ O pre A, J O pre A → ∀ b, O b → b < A.heap.size)
    (hY : ∀ m O pre x W, J O pre W → pre ++ [x] <+: xs → s ≤ W.heap.size → YieldAt Fence.wide m Try.prog l (encI x) W (YPost J Jx s O (pre ++ [x]) W))
    (ho1 : -9223372036854775808 ≤ off) (ho2 : off ≤ 9223372036854775807)
    (n g base : Nat) (v : Nat → Int × Int) (O : Nat → Prop) (pre : List (Nat × (Int × Int))) (W : World) (hn : NodeI W g (fun _ => none) v) (hg1 : s ≤ g) (hg2 : ¬ O g) (hJ : J O pre W) (hx : pre ++ items v base off 8 <+: xs) (hb : base + 8 ≤ 512) :
    CallsIn Fence.wide n Try.prog 68 #[.pointer (some ⟨g, 0, none⟩), .int .i64 base, .int .i64 1, .int .i64 off, .func (.yield l) #[] #[]] W (WPost J Jx s O pre (items v base off 8) W) := by
  have hro : Fence.wide.round = none := rfl
  have hlt0 := hn.lt
  have HY := Lib.hid hY
  have HX := Lib.hid hx
  have HN := Lib.hid hn
  have HD := Lib.hid (hJd O pre W hJ)
  have HJs := Lib.hid hJs
  have HJ : Hid (WI J s O (W.alloc (.cells #[.int .i64 0, .int .i64 0] 56)) (pre ++ items v base off 0) (W.alloc (.cells #[.int .i64 0, .int .i64 0] 56))) :=
    WI.start (by simpa [items] using hJs _ _ _ _ hJ ((Below.refl _ _).alloc (Nat.le_refl _) _))
  clear hY hx hn hJ hJs hJd
  refine callsIn_of_wp Try.func68 rfl trivial ?_ hro
  simp only [Try.ntmps68, List.size_toArray, List.length_cons, List.length_nil, Nat.reduceAdd, Nat.reduceSub, Array.replicate_succ, Array.replicate_zero, List.push_toArray, List.append_toArray, List.nil_append, List.cons_append]
  gi_wp2
  gi_loopw [14] (fun v14 wr => ∃ k : Nat, k ≤ 8 ∧ v14 = .int .i64 k ∧ Hid (WI J s O (W.alloc (.cells #[.int .i64 0, .int .i64 0] 56)) (pre ++ items v base off k) wr)) (fun v14 _ => 8 - (intOf v14).toNat)
  case atStart => exact ⟨0, by omega, rfl, HJ⟩
  case round =>
    clear HJ
    obtain ⟨k, hk, rfl, HS⟩ := hrel
    by_cases hlt : k < 8
    · have hs := items_succ v base off k
      by_cases h1 : (base : Int) + k + 1 ≤ off
      · rw [if_neg (by rintro ⟨h, _⟩; omega), List.append_nil] at hs
        have HT := Lib.hid HS.out
        rw [← hs] at HT
        clear hs HS
        gi_wp2
        go_roundw
        case rel => exact ⟨k + 1, by omega, by go_num, HT⟩
        case measure => simp [intOf]; omega
      · obtain ⟨c1, c2⟩ := (HS.out.node HN.out hg1 hg2).val k hlt
        obtain ⟨z1, z2⟩ := HS.out.box (by omega) HD.out
        obtain ⟨x, hx⟩ : ∃ x, v k = x := ⟨_, rfl⟩
        have HVK := Lib.hid hx
        rw [hx] at c1 c2 hs
        obtain ⟨x1, x2⟩ := x
        simp only at c1 c2
        have hxc : (x1 = 0 ∧ x2 = 0) ∨ x1 ≠ 0 ∨ (x1 = 0 ∧ x2 ≠ 0) := by omega
        clear hx
        rcases hxc with ⟨rfl, rfl⟩ | hx1 | ⟨rfl, hx2⟩
        · rw [if_neg (by rintro ⟨_, h⟩; exact h rfl), List.append_nil] at hs
          have HT := Lib.hid HS.out
          rw [← hs] at HT
          have HT := Lib.hid (HT.out.below HJs.out (Below.refl _ _).drew)
          clear hs HS
          gi_wp2
          refine wpIn_region_any (by kernel_rfl) ?_
          change wpAnyIn _ _ _ _ _ _ _ _ _ (World.drew _)
          refine takeIn (i := 0) (v := .pointer (some ⟨g, 0, none⟩)) 31 rfl rfl rfl (by kernel_rfl) (by kernel_rfl) (by kernel_rfl) (fun _ _ _ h => h) ⟨Or.inl ⟨by rfl, fun X => by go_simp⟩, fun _ => rfl⟩ ?_
          simp only [Act.put, List.setIfInBounds_toArray, List.set_cons_zero, List.set_cons_succ]
          refine takeIn (i := 1) (v := .int .i64 k) 32 rfl rfl rfl (by kernel_rfl) (by kernel_rfl) (by kernel_rfl) (fun _ _ _ h => h) ⟨Or.inl ⟨by rfl, fun X => by go_simp⟩, fun _ => rfl⟩ ?_
          simp only [Act.put, List.setIfInBounds_toArray, List.set_cons_zero, List.set_cons_succ]
          refine takeIn (i := 2) (v := .pointer (some ⟨g, 0, none⟩)) 33 rfl rfl rfl (by kernel_rfl) (by kernel_rfl) (by kernel_rfl) (fun _ _ _ h => h) ⟨Or.inl ⟨by rfl, fun X => by go_simp⟩, fun _ => rfl⟩ ?_
          simp only [Act.put, List.setIfInBounds_toArray, List.set_cons_zero, List.set_cons_succ]
          refine takeIn (i := 3) (v := .pointer (some ⟨g, 8, none⟩)) 34 rfl rfl rfl (by kernel_rfl) (by kernel_rfl) (by kernel_rfl) (fun _ _ _ h => h) ⟨Or.inl ⟨by rfl, fun X => by go_simp⟩, fun _ => rfl⟩ ?_
          simp only [Act.put, List.setIfInBounds_toArray, List.set_cons_zero, List.set_cons_succ]
          refine takeIn (i := 4) (v := .pointer (some ⟨g, 8 + k * 2, none⟩)) 35 rfl rfl rfl (by kernel_rfl) (by kernel_rfl) (by kernel_rfl) (fun _ _ _ h => h) ⟨Or.inl ⟨by rfl, fun X => by go_simp⟩, fun _ => rfl⟩ ?_
          simp only [Act.put, List.setIfInBounds_toArray, List.set_cons_zero, List.set_cons_succ]
          refine wpAnyIn_ready (rs := [5, 6]) (by kernel_rfl) (by simp) (AllReadyIn.cons rfl (fun K hK => ?_) (AllReadyIn.cons rfl (fun K hK => ?_) AllReadyIn.nil))
          · go_simp
            refine hK _ _ ?_
            clear hK K
            refine wpAnyIn_ready (rs := [6]) (by kernel_rfl) (by simp) (AllReadyIn.cons rfl (fun K hK => ?_) AllReadyIn.nil)
            go_simp
            refine hK _ _ ?_
            clear hK K
            refine takeIn (i := 7) (v := .bool false) 38 rfl rfl rfl (by kernel_rfl) (by kernel_rfl) (by kernel_rfl) (fun _ _ _ h => h) ⟨Or.inl ⟨by rfl, fun X => by go_simp⟩, fun _ => rfl⟩ ?_
            simp only [Act.put, List.setIfInBounds_toArray, List.set_cons_zero, List.set_cons_succ]
            refine takeIn (i := 8) (v := .bool false) 39 rfl rfl rfl (by kernel_rfl) (by kernel_rfl) (by kernel_rfl) (fun _ _ _ h => h) ⟨Or.inl ⟨by rfl, fun X => by go_simp⟩, fun _ => rfl⟩ ?_
            simp only [Act.put, List.setIfInBounds_toArray, List.set_cons_zero, List.set_cons_succ]
            refine takeIn (i := 9) (v := undef) 40 rfl rfl rfl (by kernel_rfl) (by kernel_rfl) (by kernel_rfl) (fun _ _ _ h => h) ⟨Or.inr ⟨by rfl, by rfl⟩, fun _ => rfl⟩ ?_
            simp only [Act.put, List.setIfInBounds_toArray, List.set_cons_zero, List.set_cons_succ]
            refine takeIn (i := 10) (v := undef) 41 rfl rfl rfl (by kernel_rfl) (by kernel_rfl) (by kernel_rfl) (fun _ _ _ h => h) ⟨Or.inr ⟨by rfl, by rfl⟩, fun _ => rfl⟩ ?_
            simp only [Act.put, List.setIfInBounds_toArray, List.set_cons_zero, List.set_cons_succ]
            refine takeIn (i := 11) (v := undef) 42 rfl rfl rfl (by kernel_rfl) (by kernel_rfl) (by kernel_rfl) (fun _ _ _ h => h) ⟨Or.inr ⟨by rfl, by rfl⟩, fun _ => rfl⟩ ?_
            simp only [Act.put, List.setIfInBounds_toArray, List.set_cons_zero, List.set_cons_succ]
            refine takeIn (i := 12) (v := undef) 43 rfl rfl rfl (by kernel_rfl) (by kernel_rfl) (by kernel_rfl) (fun _ _ _ h => h) ⟨Or.inr ⟨by rfl, by rfl⟩, fun _ => rfl⟩ ?_
            simp only [Act.put, List.setIfInBounds_toArray, List.set_cons_zero, List.set_cons_succ]
            refine takeIn (i := 13) (v := undef) 44 rfl rfl rfl (by kernel_rfl) (by kernel_rfl) (by kernel_rfl) (fun _ _ _ h => h) ⟨Or.inr ⟨by rfl, by rfl⟩, fun _ => rfl⟩ ?_
            simp only [Act.put, List.setIfInBounds_toArray, List.set_cons_zero, List.set_cons_succ]
            refine takeIn (i := 14) (v := undef) 45 rfl rfl rfl (by kernel_rfl) (by kernel_rfl) (by kernel_rfl) (fun _ _ _ h => h) ⟨Or.inr ⟨by rfl, by rfl⟩, fun _ => rfl⟩ ?_
            simp only [Act.put, List.setIfInBounds_toArray, List.set_cons_zero, List.set_cons_succ]
            refine takeIn (i := 15) (v := undef) 46 rfl rfl rfl (by kernel_rfl) (by kernel_rfl) (by kernel_rfl) (fun _ _ _ h => h) ⟨Or.inr ⟨by rfl, by rfl⟩, fun _ => rfl⟩ ?_
            simp only [Act.put, List.setIfInBounds_toArray, List.set_cons_zero, List.set_cons_succ]
            refine takeIn (i := 16) (v := undef) 47 rfl rfl rfl (by kernel_rfl) (by kernel_rfl) (by kernel_rfl) (fun _ _ _ h => h) ⟨Or.inr ⟨by rfl, by rfl⟩, fun _ => rfl⟩ ?_
            simp only [Act.put, List.setIfInBounds_toArray, List.set_cons_zero, List.set_cons_succ]
            refine takeIn (i := 17) (v := undef) 48 rfl rfl rfl (by kernel_rfl) (by kernel_rfl) (by kernel_rfl) (fun _ _ _ h => h) ⟨Or.inr ⟨by rfl, by rfl⟩, fun _ => rfl⟩ ?_
            simp only [Act.put, List.setIfInBounds_toArray, List.set_cons_zero, List.set_cons_succ]
            refine takeIn (i := 18) (v := undef) 49 rfl rfl rfl (by kernel_rfl) (by kernel_rfl) (by kernel_rfl) (fun _ _ _ h => h) ⟨Or.inr ⟨by rfl, by rfl⟩, fun _ => rfl⟩ ?_
            simp only [Act.put, List.setIfInBounds_toArray, List.set_cons_zero, List.set_cons_succ]
            refine takeIn (i := 19) (v := .bool false) 50 rfl rfl rfl (by kernel_rfl) (by kernel_rfl) (by kernel_rfl) (fun _ _ _ h => h) ⟨Or.inl ⟨by rfl, fun X => by go_simp⟩, fun _ => rfl⟩ ?_
            simp only [Act.put, List.setIfInBounds_toArray, List.set_cons_zero, List.set_cons_succ]
            refine wpAnyIn_done (by kernel_rfl) ?_ _
            gi_wp2
            go_roundw
            case rel => exact ⟨k + 1, by omega, by go_num, HT⟩
            case measure => simp [intOf]; omega
          · go_simp
            refine hK _ _ ?_
            clear hK K
            refine wpAnyIn_ready (rs := [5]) (by kernel_rfl) (by simp) (AllReadyIn.cons rfl (fun K hK => ?_) AllReadyIn.nil)
            go_simp
            refine hK _ _ ?_
            clear hK K
            refine takeIn (i := 7) (v := .bool false) 38 rfl rfl rfl (by kernel_rfl) (by kernel_rfl) (by kernel_rfl) (fun _ _ _ h => h) ⟨Or.inl ⟨by rfl, fun X => by go_simp⟩, fun _ => rfl⟩ ?_
            simp only [Act.put, List.setIfInBounds_toArray, List.set_cons_zero, List.set_cons_succ]
            refine takeIn (i := 8) (v := .bool false) 39 rfl rfl rfl (by kernel_rfl) (by kernel_rfl) (by kernel_rfl) (fun _ _ _ h => h) ⟨Or.inl ⟨by rfl, fun X => by go_simp⟩, fun _ => rfl⟩ ?_
            simp only [Act.put, List.setIfInBounds_toArray, List.set_cons_zero, List.set_cons_succ]
            refine takeIn (i := 9) (v := undef) 40 rfl rfl rfl (by kernel_rfl) (by kernel_rfl) (by kernel_rfl) (fun _ _ _ h => h) ⟨Or.inr ⟨by rfl, by rfl⟩, fun _ => rfl⟩ ?_
            simp only [Act.put, List.setIfInBounds_toArray, List.set_cons_zero, List.set_cons_succ]
            refine takeIn (i := 10) (v := undef) 41 rfl rfl rfl (by kernel_rfl) (by kernel_rfl) (by kernel_rfl) (fun _ _ _ h => h) ⟨Or.inr ⟨by rfl, by rfl⟩, fun _ => rfl⟩ ?_
            simp only [Act.put, List.setIfInBounds_toArray, List.set_cons_zero, List.set_cons_succ]
            refine takeIn (i := 11) (v := undef) 42 rfl rfl rfl (by kernel_rfl) (by kernel_rfl) (by kernel_rfl) (fun _ _ _ h => h) ⟨Or.inr ⟨by rfl, by rfl⟩, fun _ => rfl⟩ ?_
            simp only [Act.put, List.setIfInBounds_toArray, List.set_cons_zero, List.set_cons_succ]
            refine takeIn (i := 12) (v := undef) 43 rfl rfl rfl (by kernel_rfl) (by kernel_rfl) (by kernel_rfl) (fun _ _ _ h => h) ⟨Or.inr ⟨by rfl, by rfl⟩, fun _ => rfl⟩ ?_
            simp only [Act.put, List.setIfInBounds_toArray, List.set_cons_zero, List.set_cons_succ]
            refine takeIn (i := 13) (v := undef) 44 rfl rfl rfl (by kernel_rfl) (by kernel_rfl) (by kernel_rfl) (fun _ _ _ h => h) ⟨Or.inr ⟨by rfl, by rfl⟩, fun _ => rfl⟩ ?_
            simp only [Act.put, List.setIfInBounds_toArray, List.set_cons_zero, List.set_cons_succ]
            refine takeIn (i := 14) (v := undef) 45 rfl rfl rfl (by kernel_rfl) (by kernel_rfl) (by kernel_rfl) (fun _ _ _ h => h) ⟨Or.inr ⟨by rfl, by rfl⟩, fun _ => rfl⟩ ?_
            simp only [Act.put, List.setIfInBounds_toArray, List.set_cons_zero, List.set_cons_succ]
            refine takeIn (i := 15) (v := undef) 46 rfl rfl rfl (by kernel_rfl) (by kernel_rfl) (by kernel_rfl) (fun _ _ _ h => h) ⟨Or.inr ⟨by rfl, by rfl⟩, fun _ => rfl⟩ ?_
            simp only [Act.put, List.setIfInBounds_toArray, List.set_cons_zero, List.set_cons_succ]
            refine takeIn (i := 16) (v := undef) 47 rfl rfl rfl (by kernel_rfl) (by kernel_rfl) (by kernel_rfl) (fun _ _ _ h => h) ⟨Or.inr ⟨by rfl, by rfl⟩, fun _ => rfl⟩ ?_
            simp only [Act.put, List.setIfInBounds_toArray, List.set_cons_zero, List.set_cons_succ]
            refine takeIn (i := 17) (v := undef) 48 rfl rfl rfl (by kernel_rfl) (by kernel_rfl) (by kernel_rfl) (fun _ _ _ h => h) ⟨Or.inr ⟨by rfl, by rfl⟩, fun _ => rfl⟩ ?_
            simp only [Act.put, List.setIfInBounds_toArray, List.set_cons_zero, List.set_cons_succ]
            refine takeIn (i := 18) (v := undef) 49 rfl rfl rfl (by kernel_rfl) (by kernel_rfl) (by kernel_rfl) (fun _ _ _ h => h) ⟨Or.inr ⟨by rfl, by rfl⟩, fun _ => rfl⟩ ?_
            simp only [Act.put, List.setIfInBounds_toArray, List.set_cons_zero, List.set_cons_succ]
            refine takeIn (i := 19) (v := .bool false) 50 rfl rfl rfl (by kernel_rfl) (by kernel_rfl) (by kernel_rfl) (fun _ _ _ h => h) ⟨Or.inl ⟨by rfl, fun X => by go_simp⟩, fun _ => rfl⟩ ?_
            simp only [Act.put, List.setIfInBounds_toArray, List.set_cons_zero, List.set_cons_succ]
            refine wpAnyIn_done (by kernel_rfl) ?_ _
            gi_wp2
            go_roundw
            case rel => exact ⟨k + 1, by omega, by go_num, HT⟩
            case measure => simp [intOf]; omega
        · rw [if_pos ⟨by omega, fun e => by injection e with e1 e2; exact hx1 e1⟩] at hs
          have hq : items v base off k ++ [(base + k, (x1, x2))] <+: items v base off 8 := by
            rw [← hs]; exact items_pre v base off (by omega)
          have hpx : pre ++ items v base off k ++ [(base + k, (x1, x2))] <+: xs := by
            rw [List.append_assoc]
            exact ((List.prefix_append_right_inj pre).2 hq).trans HX.out
          have HQ := Lib.hid hq
          have HS1 := Lib.hid hs
          obtain ⟨O1, hJ1, hg1', hz1, hk1⟩ := HS.out.below HJs.out (Below.refl _ _).drew
          obtain ⟨fn, tmps, assign, body, hy, hR⟩ := HY.out (n - 1) _ _ _ _ hJ1 hpx (Nat.le_trans (by simp; omega) hz1)
          dsimp only [encI, sp] at hy
          rw [show ((base + k : Nat) : Int) = (base : Int) + k from by omega] at hy
          have HRW := Lib.hid (And.intro hg1' (And.intro hz1 hk1))
          clear hpx hq hs HS hJ1 hg1' hz1 hk1
          gi_wp2
          refine wpIn_region_any (by kernel_rfl) ?_
          change wpAnyIn _ _ _ _ _ _ _ _ _ (World.drew _)
          refine takeIn (i := 0) (v := .pointer (some ⟨g, 0, none⟩)) 31 rfl rfl rfl (by kernel_rfl) (by kernel_rfl) (by kernel_rfl) (fun _ _ _ h => h) ⟨Or.inl ⟨by rfl, fun X => by go_simp⟩, fun _ => rfl⟩ ?_
          simp only [Act.put, List.setIfInBounds_toArray, List.set_cons_zero, List.set_cons_succ]
          refine takeIn (i := 1) (v := .int .i64 k) 32 rfl rfl rfl (by kernel_rfl) (by kernel_rfl) (by kernel_rfl) (fun _ _ _ h => h) ⟨Or.inl ⟨by rfl, fun X => by go_simp⟩, fun _ => rfl⟩ ?_
          simp only [Act.put, List.setIfInBounds_toArray, List.set_cons_zero, List.set_cons_succ]
          refine takeIn (i := 2) (v := .pointer (some ⟨g, 0, none⟩)) 33 rfl rfl rfl (by kernel_rfl) (by kernel_rfl) (by kernel_rfl) (fun _ _ _ h => h) ⟨Or.inl ⟨by rfl, fun X => by go_simp⟩, fun _ => rfl⟩ ?_
          simp only [Act.put, List.setIfInBounds_toArray, List.set_cons_zero, List.set_cons_succ]
          refine takeIn (i := 3) (v := .pointer (some ⟨g, 8, none⟩)) 34 rfl rfl rfl (by kernel_rfl) (by kernel_rfl) (by kernel_rfl) (fun _ _ _ h => h) ⟨Or.inl ⟨by rfl, fun X => by go_simp⟩, fun _ => rfl⟩ ?_
          simp only [Act.put, List.setIfInBounds_toArray, List.set_cons_zero, List.set_cons_succ]
          refine takeIn (i := 4) (v := .pointer (some ⟨g, 8 + k * 2, none⟩)) 35 rfl rfl rfl (by kernel_rfl) (by kernel_rfl) (by kernel_rfl) (fun _ _ _ h => h) ⟨Or.inl ⟨by rfl, fun X => by go_simp⟩, fun _ => rfl⟩ ?_
          simp only [Act.put, List.setIfInBounds_toArray, List.set_cons_zero, List.set_cons_succ]
          refine wpAnyIn_ready (rs := [5, 6]) (by kernel_rfl) (by simp) (AllReadyIn.cons rfl (fun K hK => ?_) (AllReadyIn.cons rfl (fun K hK => ?_) AllReadyIn.nil))
          · go_simp
            refine hK _ _ ?_
            clear hK K
            refine wpAnyIn_ready (rs := [6]) (by kernel_rfl) (by simp) (AllReadyIn.cons rfl (fun K hK => ?_) AllReadyIn.nil)
            go_simp
            refine hK _ _ ?_
            clear hK K
            refine takeIn (i := 7) (v := .bool true) 38 rfl rfl rfl (by kernel_rfl) (by kernel_rfl) (by kernel_rfl) (fun _ _ _ h => h) ⟨Or.inl ⟨by rfl, fun X => by go_simp⟩, fun _ => rfl⟩ ?_
            simp only [Act.put, List.setIfInBounds_toArray, List.set_cons_zero, List.set_cons_succ]
            refine takeIn (i := 8) (v := .bool true) 39 rfl rfl rfl (by kernel_rfl) (by kernel_rfl) (by kernel_rfl) (fun _ _ _ h => h) ⟨Or.inl ⟨by rfl, fun X => by go_simp⟩, fun _ => rfl⟩ ?_
            simp only [Act.put, List.setIfInBounds_toArray, List.set_cons_zero, List.set_cons_succ]
            refine takeIn (i := 9) (v := .func (.yield l) #[] #[]) 40 rfl rfl rfl (by kernel_rfl) (by kernel_rfl) (by kernel_rfl) (fun _ _ _ h => h) ⟨Or.inl ⟨by rfl, fun X => by go_simp⟩, fun _ => rfl⟩ ?_
            simp only [Act.put, List.setIfInBounds_toArray, List.set_cons_zero, List.set_cons_succ]
            refine takeIn (i := 10) (v := .int .i64 ((base : Int) + k)) 41 rfl rfl rfl (by kernel_rfl) (by kernel_rfl) (by kernel_rfl) (fun _ _ _ h => h) ⟨Or.inl ⟨by rfl, fun X => by go_simp⟩, fun _ => rfl⟩ ?_
            simp only [Act.put, List.setIfInBounds_toArray, List.set_cons_zero, List.set_cons_succ]
            refine takeIn (i := 11) (v := .pointer (some ⟨g, 0, none⟩)) 42 rfl rfl rfl (by kernel_rfl) (by kernel_rfl) (by kernel_rfl) (fun _ _ _ h => h) ⟨Or.inl ⟨by rfl, fun X => by go_simp⟩, fun _ => rfl⟩ ?_
            simp only [Act.put, List.setIfInBounds_toArray, List.set_cons_zero, List.set_cons_succ]
            refine takeIn (i := 12) (v := .int .i64 k) 43 rfl rfl rfl (by kernel_rfl) (by kernel_rfl) (by kernel_rfl) (fun _ _ _ h => h) ⟨Or.inl ⟨by rfl, fun X => by go_simp⟩, fun _ => rfl⟩ ?_
            simp only [Act.put, List.setIfInBounds_toArray, List.set_cons_zero, List.set_cons_succ]
            refine takeIn (i := 13) (v := .pointer (some ⟨g, 0, none⟩)) 44 rfl rfl rfl (by kernel_rfl) (by kernel_rfl) (by kernel_rfl) (fun _ _ _ h => h) ⟨Or.inl ⟨by rfl, fun X => by go_simp⟩, fun _ => rfl⟩ ?_
            simp only [Act.put, List.setIfInBounds_toArray, List.set_cons_zero, List.set_cons_succ]
            refine takeIn (i := 14) (v := .pointer (some ⟨g, 8, none⟩)) 45 rfl rfl rfl (by kernel_rfl) (by kernel_rfl) (by kernel_rfl) (fun _ _ _ h => h) ⟨Or.inl ⟨by rfl, fun X => by go_simp⟩, fun _ => rfl⟩ ?_
            simp only [Act.put, List.setIfInBounds_toArray, List.set_cons_zero, List.set_cons_succ]
            refine takeIn (i := 15) (v := .pointer (some ⟨g, 8 + k * 2, none⟩)) 46 rfl rfl rfl (by kernel_rfl) (by kernel_rfl) (by kernel_rfl) (fun _ _ _ h => h) ⟨Or.inl ⟨by rfl, fun X => by go_simp⟩, fun _ => rfl⟩ ?_
            simp only [Act.put, List.setIfInBounds_toArray, List.set_cons_zero, List.set_cons_succ]
            refine wpAnyIn_ready (rs := [16]) (by kernel_rfl) (by simp) (AllReadyIn.cons rfl (fun K hK => ?_) AllReadyIn.nil)
            go_simp
            refine hK _ _ ?_
            clear hK K
            refine wpAnyIn_ready (rs := [17]) (by kernel_rfl) (by simp) (AllReadyIn.cons rfl (fun K hK => ?_) AllReadyIn.nil)
            go_simp
            refine ⟨fun h => (by cases h), ?_⟩
            refine hR.mono ?_
            clear hR hy
            rintro e W' ⟨b, rfl, hb⟩
            refine hK _ _ ?_
            clear hK K
            refine takeIn (i := 18) (v := .bool (!b)) 49 rfl rfl rfl (by kernel_rfl) (by kernel_rfl) (by kernel_rfl) (fun _ _ _ h => h) ⟨Or.inl ⟨by rfl, fun X => by go_simp⟩, fun _ => rfl⟩ ?_
            simp only [Act.put, List.setIfInBounds_toArray, List.set_cons_zero, List.set_cons_succ]
            refine takeIn (i := 19) (v := .bool (!b)) 50 rfl rfl rfl (by kernel_rfl) (by kernel_rfl) (by kernel_rfl) (fun _ _ _ h => h) ⟨Or.inl ⟨by rfl, fun X => by go_simp⟩, fun _ => rfl⟩ ?_
            simp only [Act.put, List.setIfInBounds_toArray, List.set_cons_zero, List.set_cons_succ]
            refine wpAnyIn_done (by kernel_rfl) ?_ _
            rcases hb with ⟨rfl, ⟨O2, hJ', hg'⟩, hz, hk'⟩ | ⟨rfl, hJx⟩
            · have HT : Hid (WI J s O (W.alloc (.cells #[.int .i64 0, .int .i64 0] 56)) (pre ++ items v base off (k + 1)) W') := by
                rw [HS1.out, ← List.append_assoc]
                exact WI.step HRW.out.1 HRW.out.2.1 HRW.out.2.2 hJ' hg' hz hk'
              clear hJ' hg' hz hk'
              gi_wp2
              go_roundw
              case rel => exact ⟨k + 1, by omega, by go_num, HT⟩
              case measure => simp [intOf]; omega
            · have HT := Lib.hid hJx
              clear hJx
              gi_wp2
              go_ret
              exact .inr ⟨rfl, _, HQ.out, by rw [← List.append_assoc]; exact HT.out⟩
          · go_simp
            refine hK _ _ ?_
            clear hK K
            refine wpAnyIn_ready (rs := [5]) (by kernel_rfl) (by simp) (AllReadyIn.cons rfl (fun K hK => ?_) AllReadyIn.nil)
            go_simp
            refine hK _ _ ?_
            clear hK K
            refine takeIn (i := 7) (v := .bool true) 38 rfl rfl rfl (by kernel_rfl) (by kernel_rfl) (by kernel_rfl) (fun _ _ _ h => h) ⟨Or.inl ⟨by rfl, fun X => by go_simp⟩, fun _ => rfl⟩ ?_
            simp only [Act.put, List.setIfInBounds_toArray, List.set_cons_zero, List.set_cons_succ]
            refine takeIn (i := 8) (v := .bool true) 39 rfl rfl rfl (by kernel_rfl) (by kernel_rfl) (by kernel_rfl) (fun _ _ _ h => h) ⟨Or.inl ⟨by rfl, fun X => by go_simp⟩, fun _ => rfl⟩ ?_
            simp only [Act.put, List.setIfInBounds_toArray, List.set_cons_zero, List.set_cons_succ]
            refine takeIn (i := 9) (v := .func (.yield l) #[] #[]) 40 rfl rfl rfl (by kernel_rfl) (by kernel_rfl) (by kernel_rfl) (fun _ _ _ h => h) ⟨Or.inl ⟨by rfl, fun X => by go_simp⟩, fun _ => rfl⟩ ?_
            simp only [Act.put, List.setIfInBounds_toArray, List.set_cons_zero, List.set_cons_succ]
            refine takeIn (i := 10) (v := .int .i64 ((base : Int) + k)) 41 rfl rfl rfl (by kernel_rfl) (by kernel_rfl) (by kernel_rfl) (fun _ _ _ h => h) ⟨Or.inl ⟨by rfl, fun X => by go_simp⟩, fun _ => rfl⟩ ?_
            simp only [Act.put, List.setIfInBounds_toArray, List.set_cons_zero, List.set_cons_succ]
            refine takeIn (i := 11) (v := .pointer (some ⟨g, 0, none⟩)) 42 rfl rfl rfl (by kernel_rfl) (by kernel_rfl) (by kernel_rfl) (fun _ _ _ h => h) ⟨Or.inl ⟨by rfl, fun X => by go_simp⟩, fun _ => rfl⟩ ?_
            simp only [Act.put, List.setIfInBounds_toArray, List.set_cons_zero, List.set_cons_succ]
            refine takeIn (i := 12) (v := .int .i64 k) 43 rfl rfl rfl (by kernel_rfl) (by kernel_rfl) (by kernel_rfl) (fun _ _ _ h => h) ⟨Or.inl ⟨by rfl, fun X => by go_simp⟩, fun _ => rfl⟩ ?_
            simp only [Act.put, List.setIfInBounds_toArray, List.set_cons_zero, List.set_cons_succ]
            refine takeIn (i := 13) (v := .pointer (some ⟨g, 0, none⟩)) 44 rfl rfl rfl (by kernel_rfl) (by kernel_rfl) (by kernel_rfl) (fun _ _ _ h => h) ⟨Or.inl ⟨by rfl, fun X => by go_simp⟩, fun _ => rfl⟩ ?_
            simp only [Act.put, List.setIfInBounds_toArray, List.set_cons_zero, List.set_cons_succ]
            refine takeIn (i := 14) (v := .pointer (some ⟨g, 8, none⟩)) 45 rfl rfl rfl (by kernel_rfl) (by kernel_rfl) (by kernel_rfl) (fun _ _ _ h => h) ⟨Or.inl ⟨by rfl, fun X => by go_simp⟩, fun _ => rfl⟩ ?_
            simp only [Act.put, List.setIfInBounds_toArray, List.set_cons_zero, List.set_cons_succ]
            refine takeIn (i := 15) (v := .pointer (some ⟨g, 8 + k * 2, none⟩)) 46 rfl rfl rfl (by kernel_rfl) (by kernel_rfl) (by kernel_rfl) (fun _ _ _ h => h) ⟨Or.inl ⟨by rfl, fun X => by go_simp⟩, fun _ => rfl⟩ ?_
            simp only [Act.put, List.setIfInBounds_toArray, List.set_cons_zero, List.set_cons_succ]
            refine wpAnyIn_ready (rs := [16]) (by kernel_rfl) (by simp) (AllReadyIn.cons rfl (fun K hK => ?_) AllReadyIn.nil)
            go_simp
            refine hK _ _ ?_
            clear hK K
            refine wpAnyIn_ready (rs := [17]) (by kernel_rfl) (by simp) (AllReadyIn.cons rfl (fun K hK => ?_) AllReadyIn.nil)
            go_simp
            refine ⟨fun h => (by cases h), ?_⟩
            refine hR.mono ?_
            clear hR hy
            rintro e W' ⟨b, rfl, hb⟩
            refine hK _ _ ?_
            clear hK K
            refine takeIn (i := 18) (v := .bool (!b)) 49 rfl rfl rfl (by kernel_rfl) (by kernel_rfl) (by kernel_rfl) (fun _ _ _ h => h) ⟨Or.inl ⟨by rfl, fun X => by go_simp⟩, fun _ => rfl⟩ ?_
            simp only [Act.put, List.setIfInBounds_toArray, List.set_cons_zero, List.set_cons_succ]
            refine takeIn (i := 19) (v := .bool (!b)) 50 rfl rfl rfl (by kernel_rfl) (by kernel_rfl) (by kernel_rfl) (fun _ _ _ h => h) ⟨Or.inl ⟨by rfl, fun X => by go_simp⟩, fun _ => rfl⟩ ?_
            simp only [Act.put, List.setIfInBounds_toArray, List.set_cons_zero, List.set_cons_succ]
            refine wpAnyIn_done (by kernel_rfl) ?_ _
            rcases hb with ⟨rfl, ⟨O2, hJ', hg'⟩, hz, hk'⟩ | ⟨rfl, hJx⟩
            · have HT : Hid (WI J s O (W.alloc (.cells #[.int .i64 0, .int .i64 0] 56)) (pre ++ items v base off (k + 1)) W') := by
                rw [HS1.out, ← List.append_assoc]
                exact WI.step HRW.out.1 HRW.out.2.1 HRW.out.2.2 hJ' hg' hz hk'
              clear hJ' hg' hz hk'
              gi_wp2
              go_roundw
              case rel => exact ⟨k + 1, by omega, by go_num, HT⟩
              case measure => simp [intOf]; omega
            · have HT := Lib.hid hJx
              clear hJx
              gi_wp2
              go_ret
              exact .inr ⟨rfl, _, HQ.out, by rw [← List.append_assoc]; exact HT.out⟩
        · rw [if_pos ⟨by omega, fun e => by injection e with e1 e2; exact hx2 e2⟩] at hs
          have hq : items v base off k ++ [(base + k, (0, x2))] <+: items v base off 8 := by
            rw [← hs]; exact items_pre v base off (by omega)
          have hpx : pre ++ items v base off k ++ [(base + k, (0, x2))] <+: xs := by
            rw [List.append_assoc]
            exact ((List.prefix_append_right_inj pre).2 hq).trans HX.out
          have HQ := Lib.hid hq
          have HS1 := Lib.hid hs
          obtain ⟨O1, hJ1, hg1', hz1, hk1⟩ := HS.out.below HJs.out (Below.refl _ _).drew
          obtain ⟨fn, tmps, assign, body, hy, hR⟩ := HY.out (n - 1) _ _ _ _ hJ1 hpx (Nat.le_trans (by simp; omega) hz1)
          dsimp only [encI, sp] at hy
          rw [show ((base + k : Nat) : Int) = (base : Int) + k from by omega] at hy
          have HRW := Lib.hid (And.intro hg1' (And.intro hz1 hk1))
          clear hpx hq hs HS hJ1 hg1' hz1 hk1
          gi_wp2
          refine wpIn_region_any (by kernel_rfl) ?_
          change wpAnyIn _ _ _ _ _ _ _ _ _ (World.drew _)
          refine takeIn (i := 0) (v := .pointer (some ⟨g, 0, none⟩)) 31 rfl rfl rfl (by kernel_rfl) (by kernel_rfl) (by kernel_rfl) (fun _ _ _ h => h) ⟨Or.inl ⟨by rfl, fun X => by go_simp⟩, fun _ => rfl⟩ ?_
          simp only [Act.put, List.setIfInBounds_toArray, List.set_cons_zero, List.set_cons_succ]
          refine takeIn (i := 1) (v := .int .i64 k) 32 rfl rfl rfl (by kernel_rfl) (by kernel_rfl) (by kernel_rfl) (fun _ _ _ h => h) ⟨Or.inl ⟨by rfl, fun X => by go_simp⟩, fun _ => rfl⟩ ?_
          simp only [Act.put, List.setIfInBounds_toArray, List.set_cons_zero, List.set_cons_succ]
          refine takeIn (i := 2) (v := .pointer (some ⟨g, 0, none⟩)) 33 rfl rfl rfl (by kernel_rfl) (by kernel_rfl) (by kernel_rfl) (fun _ _ _ h => h) ⟨Or.inl ⟨by rfl, fun X => by go_simp⟩, fun _ => rfl⟩ ?_
          simp only [Act.put, List.setIfInBounds_toArray, List.set_cons_zero, List.set_cons_succ]
          refine takeIn (i := 3) (v := .pointer (some ⟨g, 8, none⟩)) 34 rfl rfl rfl (by kernel_rfl) (by kernel_rfl) (by kernel_rfl) (fun _ _ _ h => h) ⟨Or.inl ⟨by rfl, fun X => by go_simp⟩, fun _ => rfl⟩ ?_
          simp only [Act.put, List.setIfInBounds_toArray, List.set_cons_zero, List.set_cons_succ]
          refine takeIn (i := 4) (v := .pointer (some ⟨g, 8 + k * 2, none⟩)) 35 rfl rfl rfl (by kernel_rfl) (by kernel_rfl) (by kernel_rfl) (fun _ _ _ h => h) ⟨Or.inl ⟨by rfl, fun X => by go_simp⟩, fun _ => rfl⟩ ?_
          simp only [Act.put, List.setIfInBounds_toArray, List.set_cons_zero, List.set_cons_succ]
          refine wpAnyIn_ready (rs := [5, 6]) (by kernel_rfl) (by simp) (AllReadyIn.cons rfl (fun K hK => ?_) (AllReadyIn.cons rfl (fun K hK => ?_) AllReadyIn.nil))
          · go_simp
            refine hK _ _ ?_
            clear hK K
            refine wpAnyIn_ready (rs := [6]) (by kernel_rfl) (by simp) (AllReadyIn.cons rfl (fun K hK => ?_) AllReadyIn.nil)
            go_simp
            refine hK _ _ ?_
            clear hK K
            refine takeIn (i := 7) (v := .bool true) 38 rfl rfl rfl (by kernel_rfl) (by kernel_rfl) (by kernel_rfl) (fun _ _ _ h => h) ⟨Or.inl ⟨by rfl, fun X => by go_simp⟩, fun _ => rfl⟩ ?_
            simp only [Act.put, List.setIfInBounds_toArray, List.set_cons_zero, List.set_cons_succ]
            refine takeIn (i := 8) (v := .bool true) 39 rfl rfl rfl (by kernel_rfl) (by kernel_rfl) (by kernel_rfl) (fun _ _ _ h => h) ⟨Or.inl ⟨by rfl, fun X => by go_simp⟩, fun _ => rfl⟩ ?_
            simp only [Act.put, List.setIfInBounds_toArray, List.set_cons_zero, List.set_cons_succ]
            refine takeIn (i := 9) (v := .func (.yield l) #[] #[]) 40 rfl rfl rfl (by kernel_rfl) (by kernel_rfl) (by kernel_rfl) (fun _ _ _ h => h) ⟨Or.inl ⟨by rfl, fun X => by go_simp⟩, fun _ => rfl⟩ ?_
            simp only [Act.put, List.setIfInBounds_toArray, List.set_cons_zero, List.set_cons_succ]
            refine takeIn (i := 10) (v := .int .i64 ((base : Int) + k)) 41 rfl rfl rfl (by kernel_rfl) (by kernel_rfl) (by kernel_rfl) (fun _ _ _ h => h) ⟨Or.inl ⟨by rfl, fun X => by go_simp⟩, fun _ => rfl⟩ ?_
            simp only [Act.put, List.setIfInBounds_toArray, List.set_cons_zero, List.set_cons_succ]
            refine takeIn (i := 11) (v := .pointer (some ⟨g, 0, none⟩)) 42 rfl rfl rfl (by kernel_rfl) (by kernel_rfl) (by kernel_rfl) (fun _ _ _ h => h) ⟨Or.inl ⟨by rfl, fun X => by go_simp⟩, fun _ => rfl⟩ ?_
            simp only [Act.put, List.setIfInBounds_toArray, List.set_cons_zero, List.set_cons_succ]
            refine takeIn (i := 12) (v := .int .i64 k) 43 rfl rfl rfl (by kernel_rfl) (by kernel_rfl) (by kernel_rfl) (fun _ _ _ h => h) ⟨Or.inl ⟨by rfl, fun X => by go_simp⟩, fun _ => rfl⟩ ?_
            simp only [Act.put, List.setIfInBounds_toArray, List.set_cons_zero, List.set_cons_succ]
            refine takeIn (i := 13) (v := .pointer (some ⟨g, 0, none⟩)) 44 rfl rfl rfl (by kernel_rfl) (by kernel_rfl) (by kernel_rfl) (fun _ _ _ h => h) ⟨Or.inl ⟨by rfl, fun X => by go_simp⟩, fun _ => rfl⟩ ?_
            simp only [Act.put, List.setIfInBounds_toArray, List.set_cons_zero, List.set_cons_succ]
            refine takeIn (i := 14) (v := .pointer (some ⟨g, 8, none⟩)) 45 rfl rfl rfl (by kernel_rfl) (by kernel_rfl) (by kernel_rfl) (fun _ _ _ h => h) ⟨Or.inl ⟨by rfl, fun X => by go_simp⟩, fun _ => rfl⟩ ?_
            simp only [Act.put, List.setIfInBounds_toArray, List.set_cons_zero, List.set_cons_succ]
            refine takeIn (i := 15) (v := .pointer (some ⟨g, 8 + k * 2, none⟩)) 46 rfl rfl rfl (by kernel_rfl) (by kernel_rfl) (by kernel_rfl) (fun _ _ _ h => h) ⟨Or.inl ⟨by rfl, fun X => by go_simp⟩, fun _ => rfl⟩ ?_
            simp only [Act.put, List.setIfInBounds_toArray, List.set_cons_zero, List.set_cons_succ]
            refine wpAnyIn_ready (rs := [16]) (by kernel_rfl) (by simp) (AllReadyIn.cons rfl (fun K hK => ?_) AllReadyIn.nil)
            go_simp
            refine hK _ _ ?_
            clear hK K
            refine wpAnyIn_ready (rs := [17]) (by kernel_rfl) (by simp) (AllReadyIn.cons rfl (fun K hK => ?_) AllReadyIn.nil)
            go_simp
            refine ⟨fun h => (by cases h), ?_⟩
            refine hR.mono ?_
            clear hR hy
            rintro e W' ⟨b, rfl, hb⟩
            refine hK _ _ ?_
            clear hK K
            refine takeIn (i := 18) (v := .bool (!b)) 49 rfl rfl rfl (by kernel_rfl) (by kernel_rfl) (by kernel_rfl) (fun _ _ _ h => h) ⟨Or.inl ⟨by rfl, fun X => by go_simp⟩, fun _ => rfl⟩ ?_
            simp only [Act.put, List.setIfInBounds_toArray, List.set_cons_zero, List.set_cons_succ]
            refine takeIn (i := 19) (v := .bool (!b)) 50 rfl rfl rfl (by kernel_rfl) (by kernel_rfl) (by kernel_rfl) (fun _ _ _ h => h) ⟨Or.inl ⟨by rfl, fun X => by go_simp⟩, fun _ => rfl⟩ ?_
            simp only [Act.put, List.setIfInBounds_toArray, List.set_cons_zero, List.set_cons_succ]
            refine wpAnyIn_done (by kernel_rfl) ?_ _
            rcases hb with ⟨rfl, ⟨O2, hJ', hg'⟩, hz, hk'⟩ | ⟨rfl, hJx⟩
            · have HT : Hid (WI J s O (W.alloc (.cells #[.int .i64 0, .int .i64 0] 56)) (pre ++ items v base off (k + 1)) W') := by
                rw [HS1.out, ← List.append_assoc]
                exact WI.step HRW.out.1 HRW.out.2.1 HRW.out.2.2 hJ' hg' hz hk'
              clear hJ' hg' hz hk'
              gi_wp2
              go_roundw
              case rel => exact ⟨k + 1, by omega, by go_num, HT⟩
              case measure => simp [intOf]; omega
            · have HT := Lib.hid hJx
              clear hJx
              gi_wp2
              go_ret
              exact .inr ⟨rfl, _, HQ.out, by rw [← List.append_assoc]; exact HT.out⟩
          · go_simp
            refine hK _ _ ?_
            clear hK K
            refine wpAnyIn_ready (rs := [5]) (by kernel_rfl) (by simp) (AllReadyIn.cons rfl (fun K hK => ?_) AllReadyIn.nil)
            go_simp
            refine hK _ _ ?_
            clear hK K
            refine takeIn (i := 7) (v := .bool true) 38 rfl rfl rfl (by kernel_rfl) (by kernel_rfl) (by kernel_rfl) (fun _ _ _ h => h) ⟨Or.inl ⟨by rfl, fun X => by go_simp⟩, fun _ => rfl⟩ ?_
            simp only [Act.put, List.setIfInBounds_toArray, List.set_cons_zero, List.set_cons_succ]
            refine takeIn (i := 8) (v := .bool true) 39 rfl rfl rfl (by kernel_rfl) (by kernel_rfl) (by kernel_rfl) (fun _ _ _ h => h) ⟨Or.inl ⟨by rfl, fun X => by go_simp⟩, fun _ => rfl⟩ ?_
            simp only [Act.put, List.setIfInBounds_toArray, List.set_cons_zero, List.set_cons_succ]
            refine takeIn (i := 9) (v := .func (.yield l) #[] #[]) 40 rfl rfl rfl (by kernel_rfl) (by kernel_rfl) (by kernel_rfl) (fun _ _ _ h => h) ⟨Or.inl ⟨by rfl, fun X => by go_simp⟩, fun _ => rfl⟩ ?_
            simp only [Act.put, List.setIfInBounds_toArray, List.set_cons_zero, List.set_cons_succ]
            refine takeIn (i := 10) (v := .int .i64 ((base : Int) + k)) 41 rfl rfl rfl (by kernel_rfl) (by kernel_rfl) (by kernel_rfl) (fun _ _ _ h => h) ⟨Or.inl ⟨by rfl, fun X => by go_simp⟩, fun _ => rfl⟩ ?_
            simp only [Act.put, List.setIfInBounds_toArray, List.set_cons_zero, List.set_cons_succ]
            refine takeIn (i := 11) (v := .pointer (some ⟨g, 0, none⟩)) 42 rfl rfl rfl (by kernel_rfl) (by kernel_rfl) (by kernel_rfl) (fun _ _ _ h => h) ⟨Or.inl ⟨by rfl, fun X => by go_simp⟩, fun _ => rfl⟩ ?_
            simp only [Act.put, List.setIfInBounds_toArray, List.set_cons_zero, List.set_cons_succ]
            refine takeIn (i := 12) (v := .int .i64 k) 43 rfl rfl rfl (by kernel_rfl) (by kernel_rfl) (by kernel_rfl) (fun _ _ _ h => h) ⟨Or.inl ⟨by rfl, fun X => by go_simp⟩, fun _ => rfl⟩ ?_
            simp only [Act.put, List.setIfInBounds_toArray, List.set_cons_zero, List.set_cons_succ]
            refine takeIn (i := 13) (v := .pointer (some ⟨g, 0, none⟩)) 44 rfl rfl rfl (by kernel_rfl) (by kernel_rfl) (by kernel_rfl) (fun _ _ _ h => h) ⟨Or.inl ⟨by rfl, fun X => by go_simp⟩, fun _ => rfl⟩ ?_
            simp only [Act.put, List.setIfInBounds_toArray, List.set_cons_zero, List.set_cons_succ]
            refine takeIn (i := 14) (v := .pointer (some ⟨g, 8, none⟩)) 45 rfl rfl rfl (by kernel_rfl) (by kernel_rfl) (by kernel_rfl) (fun _ _ _ h => h) ⟨Or.inl ⟨by rfl, fun X => by go_simp⟩, fun _ => rfl⟩ ?_
            simp only [Act.put, List.setIfInBounds_toArray, List.set_cons_zero, List.set_cons_succ]
            refine takeIn (i := 15) (v := .pointer (some ⟨g, 8 + k * 2, none⟩)) 46 rfl rfl rfl (by kernel_rfl) (by kernel_rfl) (by kernel_rfl) (fun _ _ _ h => h) ⟨Or.inl ⟨by rfl, fun X => by go_simp⟩, fun _ => rfl⟩ ?_
            simp only [Act.put, List.setIfInBounds_toArray, List.set_cons_zero, List.set_cons_succ]
            refine wpAnyIn_ready (rs := [16]) (by kernel_rfl) (by simp) (AllReadyIn.cons rfl (fun K hK => ?_) AllReadyIn.nil)
            go_simp
            refine hK _ _ ?_
            clear hK K
            refine wpAnyIn_ready (rs := [17]) (by kernel_rfl) (by simp) (AllReadyIn.cons rfl (fun K hK => ?_) AllReadyIn.nil)
            go_simp
            refine ⟨fun h => (by cases h), ?_⟩
            refine hR.mono ?_
            clear hR hy
            rintro e W' ⟨b, rfl, hb⟩
            refine hK _ _ ?_
            clear hK K
            refine takeIn (i := 18) (v := .bool (!b)) 49 rfl rfl rfl (by kernel_rfl) (by kernel_rfl) (by kernel_rfl) (fun _ _ _ h => h) ⟨Or.inl ⟨by rfl, fun X => by go_simp⟩, fun _ => rfl⟩ ?_
            simp only [Act.put, List.setIfInBounds_toArray, List.set_cons_zero, List.set_cons_succ]
            refine takeIn (i := 19) (v := .bool (!b)) 50 rfl rfl rfl (by kernel_rfl) (by kernel_rfl) (by kernel_rfl) (fun _ _ _ h => h) ⟨Or.inl ⟨by rfl, fun X => by go_simp⟩, fun _ => rfl⟩ ?_
            simp only [Act.put, List.setIfInBounds_toArray, List.set_cons_zero, List.set_cons_succ]
            refine wpAnyIn_done (by kernel_rfl) ?_ _
            rcases hb with ⟨rfl, ⟨O2, hJ', hg'⟩, hz, hk'⟩ | ⟨rfl, hJx⟩
            · have HT : Hid (WI J s O (W.alloc (.cells #[.int .i64 0, .int .i64 0] 56)) (pre ++ items v base off (k + 1)) W') := by
                rw [HS1.out, ← List.append_assoc]
                exact WI.step HRW.out.1 HRW.out.2.1 HRW.out.2.2 hJ' hg' hz hk'
              clear hJ' hg' hz hk'
              gi_wp2
              go_roundw
              case rel => exact ⟨k + 1, by omega, by go_num, HT⟩
              case measure => simp [intOf]; omega
            · have HT := Lib.hid hJx
              clear hJx
              gi_wp2
              go_ret
              exact .inr ⟨rfl, _, HQ.out, by rw [← List.append_assoc]; exact HT.out⟩
    · obtain rfl : 8 = k := by omega
      gi_wp2
      go_ret
      exact .inl ⟨rfl, HS.out.out⟩

end Go.Proofs.Ytfljnfmocmhhdaa.Spn
