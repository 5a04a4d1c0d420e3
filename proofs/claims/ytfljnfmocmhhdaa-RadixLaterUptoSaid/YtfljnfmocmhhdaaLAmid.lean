/-
What the statement RadixAmid computes of any script, offset, cut and value: true.
-/
import Derived.Test.YtfljnfmocmhhdaaWTail
import Derived.Test.YtfljnfmocmhhdaaAsg
import Derived.Test.YtfljnfmocmhhdaaLLast
import Derived.Test.YtfljnfmocmhhdaaWLawFrom
import Derived.Test.YtfljnfmocmhhdaaOpenA
import Derived.Laws.ResultCell
import Derived.Sort.CutIn
namespace Go.Proofs.Ytfljnfmocmhhdaa
open Go.RowKit Go.Shelf
attribute [local go_sem] Oper.semAt_some

theorem boxesA (w : World) (v0 v1 v2 v3 x1 x2 x3 : Value) (t0 t1 t2 t3 : TypeId) (W : World) (hW : (((w.alloc (.cells #[v0, v1, v2, v3] t0)).alloc (.cells #[x1] t1)).alloc (.cells #[x2] t2)).alloc (.cells #[x3] t3) = W) :
    W.heap.size = w.heap.size + 4 ∧ W.heap[w.heap.size]? = some (.cells #[v0, v1, v2, v3] t0 (0, 0)) ∧ Boxed W (w.heap.size + 1) t1 x1 ∧ Boxed W (w.heap.size + 1 + 1) t2 x2 ∧ Boxed W (w.heap.size + 1 + 1 + 1) t3 x3 ∧ Below w.heap.size w W := by
  subst hW
  refine ⟨by simp, ?_, ?_, ?_, ?_, ?_⟩
  · have := heap_alloc_new w (.cells #[v0, v1, v2, v3] t0)
    exact ((Below.heap_alloc _ _ _ (by simp; omega)).trans ((Below.heap_alloc _ _ _ (by simp; omega)).trans ((Below.heap_alloc _ _ _ (by simp)).trans this)))
  · have := Boxed.new (w.alloc (.cells #[v0, v1, v2, v3] t0)) t1 x1
    rw [World.size_alloc] at this
    exact (this.alloc _).alloc _
  · have := Boxed.new ((w.alloc (.cells #[v0, v1, v2, v3] t0)).alloc (.cells #[x1] t1)) t2 x2
    rw [World.size_alloc, World.size_alloc] at this
    exact this.alloc _
  · have := Boxed.new (((w.alloc (.cells #[v0, v1, v2, v3] t0)).alloc (.cells #[x1] t1)).alloc (.cells #[x2] t2)) t3 x3
    rw [World.size_alloc, World.size_alloc, World.size_alloc] at this
    exact this
  · exact ((((Below.refl _ _).alloc (Nat.le_refl _) _).alloc (by simp) _).alloc (by simp; omega) _).alloc (by simp; omega) _

theorem items_sorted (F : Nat → Int) (off : Int) : ∀ n, (items F 0 off n).Pairwise (fun a b => a.1 < b.1) ∧ ∀ x ∈ items F 0 off n, x.1 < n
  | 0 => ⟨List.Pairwise.nil, fun x hx => by simp [items] at hx⟩
  | n + 1 => by
    obtain ⟨h1, h2⟩ := items_sorted F off n
    rw [items_succ]
    refine ⟨List.pairwise_append.2 ⟨h1, ?_, ?_⟩, ?_⟩
    · split <;> simp
    · intro a ha b hb
      have := h2 a ha
      split at hb
      · simp at hb; rw [hb]; simpa using this
      · cases hb
    · intro x hx
      rcases List.mem_append.1 hx with hx | hx
      · have := h2 x hx; omega
      · split at hx
        · simp at hx; rw [hx]; simp
        · cases hx
/-- the last offset that has come; -1: none -/
def atI (pre : List (Nat × Int)) : Int := match pre.getLast? with | none => -1 | some x => x.1
theorem atI_snoc (pre : List (Nat × Int)) (x : Nat × Int) : atI (pre ++ [x]) = x.1 := by simp [atI]
theorem atI_lt {F : Nat → Int} {off : Int} {n : Nat} {pre : List (Nat × Int)} {x : Nat × Int} (h : pre ++ [x] <+: items F 0 off n) : -1 ≤ atI pre ∧ atI pre < x.1 := by
  unfold atI
  cases hl : pre.getLast? with
  | none => simp; omega
  | some y =>
    have hy := List.mem_of_getLast? hl
    have hp := (items_sorted F off n).1.sublist h.sublist
    have := (List.pairwise_append.1 hp).2.2 y hy x (by simp)
    simp
    omega

theorem atI_bd {pre : List (Nat × Int)} (h : ∀ x ∈ pre, x.1 < 512) : -1 ≤ atI pre ∧ atI pre ≤ 511 := by
  unfold atI
  cases hl : pre.getLast? with
  | none => simp
  | some y =>
    have := h y (List.mem_of_getLast? hl)
    simp
    omega

/-- the boxes -/
structure AmB (w : World) (A : Option Addr) (n c : Nat) (frm cut V v : Int) (p q : Nat) (at_ cnt : Int) (W : World) : Prop where
  bx : W.heap[w.heap.size]? = some (.cells #[.slice A n c, .int .i64 frm, .int .i64 cut, .int .i64 V] 24 (0, 0))
  b2 : Boxed W (w.heap.size + 1) 4 (.bool false)
  b3 : Boxed W (w.heap.size + 1 + 1) 22 (.slice A n c)
  b4 : Boxed W (w.heap.size + 1 + 1 + 1) 3 (.int .i64 frm)
  b5 : Boxed W q 25 (.pointer (some ⟨p + 1, 0, none⟩))
  b7 : Boxed W (q + 1) 3 (.int .i64 v)
  b8 : Boxed W (q + 1 + 1) 3 (.int .i64 at_)
  b9 : Boxed W (q + 1 + 1 + 1) 3 (.int .i64 cnt)
section
variable {w : World} {A : Option Addr} {n c : Nat} {frm cut V v : Int} {p q : Nat} {at_ cnt : Int} {W W' : World}
theorem AmB.sim {B0 : Nat} (h : AmB w A n c frm cut V v p q at_ cnt W) (hs : Sim B0 W W') : AmB w A n c frm cut V v p q at_ cnt W' :=
  ⟨hs.cells _ _ _ _ h.bx, boxed_sim h.b2 hs, boxed_sim h.b3 hs, boxed_sim h.b4 hs, boxed_sim h.b5 hs, boxed_sim h.b7 hs, boxed_sim h.b8 hs, boxed_sim h.b9 hs⟩
theorem AmB.chg {D : Nat → Prop} (h : AmB w A n c frm cut V v p q at_ cnt W) (hc : Chg D W W') (hn : ∀ b, (w.heap.size ≤ b ∧ b < w.heap.size + 4) ∨ (q ≤ b ∧ b < q + 4) → ¬ D b) : AmB w A n c frm cut V v p q at_ cnt W' :=
  ⟨hc.heap h.bx (hn _ (by omega)), boxed_chg h.b2 hc (hn _ (by omega)), boxed_chg h.b3 hc (hn _ (by omega)), boxed_chg h.b4 hc (hn _ (by omega)), boxed_chg h.b5 hc (hn _ (by omega)), boxed_chg h.b7 hc (hn _ (by omega)), boxed_chg h.b8 hc (hn _ (by omega)), boxed_chg h.b9 hc (hn _ (by omega))⟩
theorem AmB.put (h : AmB w A n c frm cut V v p q at_ cnt W) (hq : w.heap.size + 4 ≤ q) (at2 cnt2 : Int) : AmB w A n c frm cut V v p q at2 cnt2 ((W.setCell ⟨q + 1 + 1, 0, none⟩ (.int .i64 at2)).setCell ⟨q + 1 + 1 + 1, 0, none⟩ (.int .i64 cnt2)) :=
  ⟨(heap_setCell_other _ _ _ _ (by show w.heap.size ≠ q + 1 + 1 + 1; omega)).trans ((heap_setCell_other _ _ _ _ (by show w.heap.size ≠ q + 1 + 1; omega)).trans h.bx), (h.b2.other (by omega) _).other (by omega) _, (h.b3.other (by omega) _).other (by omega) _, (h.b4.other (by omega) _).other (by omega) _,
    (h.b5.other (by omega) _).other (by omega) _, (h.b7.other (by omega) _).other (by omega) _, (h.b8.set _).other (by omega) _, (h.b9.other (by omega) _).set _⟩
end
/-- between two rounds: s is where the body's own memory begins -/
structure AmI (w : World) (A : Option Addr) (n c : Nat) (frm cut V v : Int) (p q s : Nat) (pre : List (Nat × Int)) (W : World) : Prop where
  box : AmB w A n c frm cut V v p q (atI pre) pre.length W
  tree : ∃ lb g, TreeI W (p + 1) g lb ∧ (∀ b, lb b ≠ 0 → (p ≤ b ∧ b < q) ∨ s ≤ b) ∧ (pre ≠ [] → g (plc5 (atI pre + 1)) = v)
  bel : Below w.heap.size w W
theorem AmI.sim {w : World} {A : Option Addr} {n c : Nat} {frm cut V v : Int} {p q s : Nat} {pre : List (Nat × Int)} {X Y : World} {B0 : Nat} (h : AmI w A n c frm cut V v p q s pre X) (hs : Sim B0 X Y) (hB : w.heap.size ≤ B0) : AmI w A n c frm cut V v p q s pre Y := by
  obtain ⟨lb, g, ht, hl, hp⟩ := h.tree
  exact ⟨h.box.sim hs, ⟨lb, g, ht.sim hs, hl, hp⟩,
    hs.os.trans h.bel.os, hs.tape.trans h.bel.tape, hs.output.trans h.bel.output, Nat.le_trans h.bel.size hs.size, fun k hk => (hs.low k (by omega)).trans (h.bel.block k hk)⟩

set_option maxRecDepth 100000 in
set_option maxHeartbeats 8000000 in
theorem radixAmid_any (w : World) (A : Option Addr) (n c : Nat) (l : List PutV) (hr : RdT w A n c l) (frm cut V : Int) (hf1 : -9223372036854775808 ≤ frm) (hc1 : -9223372036854775808 ≤ cut) (hV1 : -9223372036854775808 ≤ V) (hV2 : V ≤ 9223372036854775807) :
    CallsIn Fence.wide 6 Try.prog 3 #[.agg #[.slice A n c, .int .i64 frm, .int .i64 cut, .int .i64 V]] w fun e w' => e = .returned (.bool true) ∧ Below w.heap.size w w' := by
  have HLA := Lib.hid (fun (X : World) (hX : Below w.heap.size w X) => last_any X A n c l (hr.below hX))
  have HGR := Lib.hid (fun (X : World) (hX : Below w.heap.size w X) => grown_any X A n c l (hr.below hX))
  have HRL := Lib.hid (fun i (hi : i < 512) => run_last (l.take 400) i hi)
  clear hr
  refine callsIn_of_wp_marks Try.func3 rfl trivial ?_ rfl
  simp only [Try.ntmps3, List.size_toArray, List.length_cons, List.length_nil, Nat.reduceAdd, Nat.reduceSub, Array.replicate_succ, Array.replicate_zero, List.push_toArray, List.append_toArray, List.nil_append, List.cons_append]
  gi_wp2_with fail
  refine ⟨trivial, ?_⟩
  obtain ⟨W0, hW0⟩ : ∃ W, (((w.alloc (.cells #[.slice A n c, .int .i64 frm, .int .i64 cut, .int .i64 V] 24)).alloc (.cells #[.bool false] 4)).alloc (.cells #[.slice A n c] 22)).alloc (.cells #[.int .i64 frm] 3) = W := ⟨_, rfl⟩
  obtain ⟨hsz0, bx, b2, b3, b4, hbl0⟩ := boxesA _ _ _ _ _ _ _ _ _ _ _ _ W0 hW0
  rw [hW0]
  clear hW0
  refine (callsIn_wide.2 (HGR.out W0 hbl0)).mono ?_
  rintro e W1 ⟨rfl, hg⟩
  obtain ⟨lb, ht, hl⟩ := hg.tree
  have hB1 := hg.bel
  generalize hf : runP (l.take 400) = f at *
  generalize hla : lastP (l.take 400) = la at *
  clear hf hla HGR hg
  have hbx1 := (hB1.block w.heap.size (by omega)).trans bx
  have hb2 := boxed_chg b2 (Chg.of_below (fun _ => False) hB1) (fun h => h)
  have hb3 := boxed_chg b3 (Chg.of_below (fun _ => False) hB1) (fun h => h)
  have hb4 := boxed_chg b4 (Chg.of_below (fun _ => False) hB1) (fun h => h)
  have HBL1 := Lib.hid (below_lift hbl0 hB1)
  have HT := Lib.hid ht
  have HL := Lib.hid hl
  have hrl : W0.heap.size + 1 < W1.heap.size := ht.dom _ (by rw [ht.lr]; decide)
  have hws : w.heap.size + 4 ≤ W0.heap.size := by omega
  have hws2 : W0.heap.size ≤ w.heap.size + 4 := by omega
  have cv : W1.cell? ⟨w.heap.size, 3, none⟩ = some (.int .i64 V) := by rw [cell_of_row _ _ _ _ _ _ hbx1]; rfl
  have c3 := hb3.cell
  have c4 := hb4.cell
  have HBX := Lib.hid hbx1
  have H2 := Lib.hid hb2
  have H3 := Lib.hid hb3
  have H4 := Lib.hid hb4
  clear bx b2 b3 b4 hbl0 hB1 ht hl hbx1 hb2 hb3 hb4 hsz0
  have hq1 : w.heap.size < W1.heap.size := by omega
  have hq2 : w.heap.size + 1 < W1.heap.size := by omega
  have hq3 : w.heap.size + 1 + 1 < W1.heap.size := by omega
  have hq4 : w.heap.size + 1 + 1 + 1 < W1.heap.size := by omega
  gi_upto_if 28 with fail
  gi_cut [27] from 27 (fun _ wx => ∃ v : Int, Hid (v ≠ 0 ∧ -9223372036854775808 ≤ v ∧ v ≤ 9223372036854775807) ∧ wx = (W1.alloc (.cells #[.pointer (some ⟨W0.heap.size + 1, 0, none⟩)] 25)).alloc (.cells #[.int .i64 v] 3))
  case first =>
    by_cases hV : V = 0
    · have e1 : (V == 0) = true := by simpa using hV
      clear hV
      gi_wp2_with fail
      gi_meet
      exact ⟨1, Lib.hid (by decide), rfl⟩
    · have e1 : (V == 0) = false := by simpa using hV
      have HV : Hid (V ≠ 0 ∧ -9223372036854775808 ≤ V ∧ V ≤ 9223372036854775807) := ⟨hV, hV1, hV2⟩
      clear hV
      gi_wp2_with fail
      gi_meet
      exact ⟨V, HV, rfl⟩
  case rest =>
    obtain ⟨v, HV, rfl⟩ := hcut
    gi_wp2_with (refine ⟨trivial, ?_⟩; gi_at_call 18; refine (callsIn_wide.2 (from_any _ _ frm)).mono ?_; rintro e w1 ⟨rfl, rfl⟩)
    obtain ⟨W2, hW2⟩ : ∃ X, (((((W1.alloc (.cells #[.pointer (some ⟨W0.heap.size + 1, 0, none⟩)] 25)).alloc (.cells #[.int .i64 v] 3)).alloc (.cells #[.int .i64 (-1)] 3)).alloc (.cells #[.int .i64 0] 3)).alloc (.cells #[.pointer (some ⟨W0.heap.size + 1, 0, none⟩)] 25)).alloc (.cells #[.int .i64 frm] 3) = X := ⟨_, rfl⟩
    obtain ⟨hsz2, d5, d7, d8, d9, dt, df, hbl2⟩ := boxes6 _ _ _ _ _ _ _ _ _ _ _ _ _ W2 hW2
    rw [hW2]
    clear hW2
    generalize W0.heap.size = p at *
    obtain ⟨q, hq⟩ : ∃ q, W1.heap.size = q := ⟨_, rfl⟩
    have HBLq := Lib.hid hbl2
    rw [hq] at hrl hq1 hq2 hq3 hq4 hsz2 d5 d7 d8 d9 dt df ⊢
    have hz2 : q + 6 ≤ W2.heap.size := by omega
    clear hsz2
    obtain ⟨cc, hgv⟩ := from_gives W2 (p + 1) f lb (HT.out.below HBLq.out) frm hf1 (q + 1 + 1 + 1 + 1 + 1) (q + 1 + 1 + 1 + 1) df.cell dt.cell
    have hch2 := Chg.of_below (fun _ => False) HBLq.out
    have HI0 : Hid (AmI w A n c frm cut V v p q (W2.heap.size + 2 + cc) [] W2) := ⟨⟨(HBLq.out.block w.heap.size (by omega)).trans HBX.out, boxed_chg H2.out hch2 (fun h => h), boxed_chg H3.out hch2 (fun h => h), boxed_chg H4.out hch2 (fun h => h), d5, d7, d8, d9⟩, ⟨lb, f, HT.out.below HBLq.out, fun b hb => .inl ⟨HL.out b hb, by have := HT.out.dom b hb; omega⟩, fun h => absurd rfl h⟩, below_lift HBL1.out HBLq.out⟩
    clear d5 d7 d8 d9 dt df hch2 HT HL HBX H2 H3 H4 HBL1 HBLq cv c3 c4
    refine range_law_as #[10, 11] rfl (by omega) (gf := 51) (lb := #[.pointer (some ⟨q + 1 + 1 + 1 + 1 + 1, 0, none⟩), .pointer (some ⟨q + 1 + 1 + 1 + 1, 0, none⟩)]) rfl trivial (enters_of Try.func51 (by kernel_rfl) rfl) (hgv _) (fun _ => rfl)
      (AmI w A n c frm cut V v p q (W2.heap.size + 2 + cc)) (fun _ _ _ => False) (fun pre A B h hs => h.sim hs (by omega)) (fun _ _ _ _ h _ => h) HI0.out ?assign ?body ?done ?stop
    case assign =>
      intro lp x W K hK
      have HK := Lib.hid hK
      clear hK
      simp only [encI, asg_two, List.setIfInBounds_toArray, List.set_cons_zero, List.set_cons_succ] at HK
      simp only [encI]
      gi_wp2
      exact HK.out
    case body =>
      intro lp pre x W hI hpx hwz hl1 hl2 _
      simp only [encI, asg_two, List.setIfInBounds_toArray, List.set_cons_zero, List.set_cons_succ]
      obtain ⟨hat1, hat2⟩ := atI_lt hpx
      have hats := atI_snoc pre x
      obtain ⟨hx1, hx2, hx3, hx4⟩ := items_mem (hpx.subset (by simp : x ∈ pre ++ [x]))
      have hlen : pre.length + 1 ≤ 512 := by
        have h1 := hpx.length_le
        have h2 := items_len f 0 frm 512
        simp at h1
        omega
      have hlx := HRL.out x.1 hx1
      rw [hx3] at hlx
      have HLK := Lib.hid (HLA.out W hI.bel x.1)
      rw [← hlx] at HLK
      obtain ⟨lb, g, ht, hlb, _⟩ := hI.tree
      have c2 := hI.box.b2.cell
      have c3 := hI.box.b3.cell
      have c4 := hI.box.b4.cell
      have c5 := hI.box.b5.cell
      have c7 := hI.box.b7.cell
      have c8 := hI.box.b8.cell
      have f8 := hI.box.b8.frozen
      have c9 := hI.box.b9.cell
      have f9 := hI.box.b9.frozen
      have cx : W.cell? ⟨w.heap.size, 2, none⟩ = some (.int .i64 cut) := by rw [cell_of_row _ _ _ _ _ _ hI.box.bx]; rfl
      have hx4b : (x.2 == 0) = false := by simpa using hx4
      have HI := Lib.hid hI
      have HT := Lib.hid ht
      have HLB := Lib.hid hlb
      have Hats := Lib.hid hats
      have Hpx := Lib.hid hpx
      obtain ⟨y, z⟩ := x
      simp only at hat2 hx1 hx2 hx4b HLK
      generalize atI pre = at_ at *
      clear hI ht hlb hats hpx hx3 hx4 hlx
      gi_wp2_with (refine ⟨trivial, ?_⟩; gi_at_call 19; refine (CallsIn.inRound lp (callsIn_wide.2 HLK.out)).mono ?_; rintro e w1 ⟨rfl, rfl⟩)
      refine ⟨trivial, ?_⟩
      obtain ⟨X1, hX1⟩ : ∃ X, (W.setCell ⟨q + 1 + 1, 0, none⟩ (.int .i64 (y : Int))).setCell ⟨q + 1 + 1 + 1, 0, none⟩ (.int .i64 ((pre.length : Int) + 1)) = X := ⟨_, rfl⟩
      have hB1 : AmB w A n c frm cut V v p q y ((pre.length : Int) + 1) X1 := by rw [← hX1]; exact HI.out.box.put (by omega) _ _
      have hc1x : Chg (fun b => b = q + 1 + 1 ∨ b = q + 1 + 1 + 1) W X1 := by
        rw [← hX1]
        exact ((Chg.refl _ W).setCell (p := ⟨q + 1 + 1, 0, none⟩) (fun _ => .inl rfl) _).setCell (p := ⟨q + 1 + 1 + 1, 0, none⟩) (fun _ => .inr rfl) _
      rw [hX1]
      clear hX1
      have ht1 := HT.out.chg hc1x (fun b hb => by have := HLB.out b hb; omega)
      refine (CallsIn.inRound lp (callsIn_wide.2 (cut_calls X1 _ g lb ht1 cut hc1))).mono ?_
      rintro e X3 ⟨vv, rfl, _, ht3, hc3⟩
      have hB3 := hB1.chg hc3 (fun b hb => by intro h; have := HLB.out b h; omega)
      have hc13 : Chg (fun b => (b = q + 1 + 1 ∨ b = q + 1 + 1 + 1) ∨ Of lb b) W X3 := (hc1x.mono (fun _ _ h => .inl h)).trans hc3 (fun _ _ h => .inr h)
      have HB3 := Lib.hid hB3
      have HC13 := Lib.hid hc13
      have HT3 := Lib.hid ht3
      have e5 := hB3.b5.cell
      have e7 := hB3.b7.cell
      clear hB1 hc1x ht1 hc3 hB3 hc13 ht3 c2 c3 c4 c5 c7 c8 f8 c9 f9 cx HLK
      gi_wp2_with fail
      have hyw : IntKind.i64.wrap ((y : Int) + 1) = (y : Int) + 1 := IntWalk.i64_in _ (by omega)
      have HP3 : Hid (∀ X : World, Calls Try.prog 22 #[.int .i64 ((y : Int) + 1), .int .i64 512] X fun e w' => e = .returned (.int .i64 (plc5 ((y : Int) + 1) : Nat)) ∧ w' = X) := fun X => (place5_any ((y : Int) + 1) X).mono fun e w' h => ⟨h.1, h.2.symm⟩
      have hd := plc5_lt ((y : Int) + 1)
      generalize hdd : plc5 ((y : Int) + 1) = d at *
      have HDD := Lib.hid hdd
      clear hdd
      have HS3 := Lib.hid (set_any X3.drew (p + 1) _ lb (HT3.out.below (drewN_below X3 1)) d hd v)
      refine region_tail 5 lp ?hq1 (by kernel_rfl) (by kernel_rfl) (by kernel_rfl) ?_
      case hq1 => rintro ⟨_, _, h⟩; exact h
      simp only [List.take_succ_cons, List.take_zero, List.drop_succ_cons, List.drop_zero]
      still_step
      still_step
      still_step
      still_call (HP3.out _)
      still_step
      refine wpStill_nil ?_
      go_wp2_with fail
      refine HS3.out.mono ?_
      rintro e X5 ⟨rfl, lb2, ht5, hx5, hc5⟩
      have hc35 : Chg (fun b => (b = q + 1 + 1 ∨ b = q + 1 + 1 + 1) ∨ Of lb b) W X5 := HC13.out.drew.trans hc5 (fun _ _ h => .inr h)
      have hB5 := (HB3.out.chg ((Chg.refl (fun _ => False) X3).drew) (fun _ _ h => h)).chg hc5 (fun b hb => by intro h; have := HLB.out b h; omega)
      have hz5 := HC13.out.size
      have HE : Hid (Held W2.heap.size (W2.heap.size + 2) cc W X5.drew ∧ AmI w A n c frm cut V v p q (W2.heap.size + 2 + cc) (pre ++ [(y, z)]) X5.drew) := by
        refine ⟨Held.of_chg hc35.drew ?_ ?_ hwz, ?_, ⟨lb2, _, ht5.below (drewN_below X5 1), ?_, ?_⟩, ?_⟩
        · rintro b ((rfl | rfl) | h) hb
          · omega
          · omega
          · obtain ⟨cs, t, h⟩ := HT.out.cel b h; exact ⟨cs, t, _, h⟩
        · rintro b ((rfl | rfl) | h) hb
          · omega
          · omega
          · have := HLB.out b h; omega
        · rw [Hats.out, List.length_append]
          exact hB5.chg ((Chg.refl (fun _ => False) X5).drew) (fun _ _ h => h)
        · intro b hb
          rcases hx5.1 b hb with h | h
          · exact HLB.out b h
          · right
            have h : X3.heap.size ≤ b := h
            omega
        · intro _
          rw [Hats.out, HDD.out, upd_same]
        · exact HI.out.bel.trans (hc35.drew.below _ HI.out.bel.size (fun b hb => by rintro ((rfl | rfl) | h) <;> first | omega | (have := HLB.out b h; omega)))
      have g5 := hB5.b5.cell
      have g7 := hB5.b7.cell
      have HG := Lib.hid (get_any X5.drew (p + 1) _ lb2 (ht5.below (drewN_below X5 1)) d hd)
      rw [upd_same] at HG
      have HG2 : Hid (Calls Try.prog 23 #[.pointer (some ⟨p + 1, 0, none⟩), .int .i64 d] X5.drew fun e w' => e = .returned (.int .i64 v) ∧ w' = X5.drew) := HG.out.mono fun e w' h => ⟨h.1, h.2.symm⟩
      clear hc35 hB5 hz5 ht5 hx5 hc5 HS3 HG e5 e7 HB3 HC13 HT3 HI HT HLB Hats HDD Hpx
      go_wp2_with fail
      gi_wp2_with fail
      refine region_tail 6 lp ?hq2 (by kernel_rfl) (by kernel_rfl) (by kernel_rfl) ?_
      case hq2 => rintro ⟨_, _, h⟩; exact h
      simp only [List.take_succ_cons, List.take_zero, List.drop_succ_cons, List.drop_zero]
      still_step
      still_step
      still_step
      still_call (HP3.out _)
      still_call HG2.out
      still_step
      refine wpStill_nil ?_
      go_wp2_with fail
      gi_wp2_with fail
      exact HE.out
    case done =>
      rintro D W hD hI hK
      obtain ⟨lb, g, ht, hlb, hgv⟩ := hI.tree
      have c2 := hI.box.b2.cell
      have f2 := hI.box.b2.frozen
      have c3 := hI.box.b3.cell
      have c4 := hI.box.b4.cell
      have c5 := hI.box.b5.cell
      have c7 := hI.box.b7.cell
      have c8 := hI.box.b8.cell
      have c9 := hI.box.b9.cell
      have hil := items_len f 0 frm 512
      have hab := atI_bd (pre := items f 0 frm 512) (fun x hx => (items_mem hx).1)
      have HI := Lib.hid hI
      have HK := Lib.hid hK
      have HT := Lib.hid ht
      have HGV := Lib.hid hgv
      clear hI hK ht hlb hgv
      gi_wp2_with fail
      refine wpIn_wide.2 ?_
      go_loopw [12, 13] (fun v12 v13 wr => ∃ k : Nat, k ≤ 512 ∧ v13 = .int .i64 k ∧ v12 = .int .i64 ((items f 0 frm k).length : Nat) ∧ wr = W) (fun _ v13 _ => 512 - (intOf v13).toNat)
      case atStart => exact ⟨0, by omega, rfl, rfl, rfl⟩
      case round =>
        obtain ⟨k, hk, rfl, rfl, rfl⟩ := hrel
        have hik := items_len f 0 frm k
        by_cases hlt : k < 512
        · have hsn := items_succ f 0 frm k
          rw [Nat.zero_add] at hsn
          have HLK := Lib.hid (HLA.out wr HI.out.bel k)
          have hfl := HRL.out k hlt
          rw [← hfl] at HLK
          by_cases hfr : frm ≤ (k : Int)
          · by_cases hfz : f k = 0
            · have hl : (items f 0 frm (k + 1)).length = (items f 0 frm k).length := by rw [hsn, if_neg (fun h => h.2 hfz)]; simp
              rw [hfz] at HLK
              have HL := Lib.hid hl
              clear hsn hfl hl hfz
              go_wp2_with fail
              refine HLK.out.mono ?_
              rintro e X ⟨rfl, rfl⟩
              go_wp2_with fail
              go_roundw
              case rel => exact ⟨k + 1, by omega, by go_num, by rw [HL.out], trivial⟩
              case measure => simp [intOf]; omega
            · have hl : (items f 0 frm (k + 1)).length = (items f 0 frm k).length + 1 := by rw [hsn, if_pos ⟨hfr, hfz⟩]; simp
              have hz1 : (f k != 0) = true := by simpa using hfz
              have HL := Lib.hid hl
              clear hsn hfl hl hfz
              go_wp2_with fail
              refine HLK.out.mono ?_
              rintro e X ⟨rfl, rfl⟩
              go_wp2_with fail
              go_roundw
              case rel => exact ⟨k + 1, by omega, by go_num, by rw [HL.out]; simp, trivial⟩
              case measure => simp [intOf]; omega
          · have hl : (items f 0 frm (k + 1)).length = (items f 0 frm k).length := by rw [hsn, if_neg (fun h => hfr h.1)]; simp
            have HL := Lib.hid hl
            clear hsn hfl hl HLK
            go_wp2_with fail
            go_roundw
            case rel => exact ⟨k + 1, by omega, by go_num, by rw [HL.out], trivial⟩
            case measure => simp [intOf]; omega
        · obtain rfl : 512 = k := by omega
          generalize hxs : items f 0 frm 512 = xs at *
          clear hxs hik hgv
          by_cases h0 : xs = []
          · have e0 : (((xs.length : Nat) : Int) == 0) = true := by rw [h0]; rfl
            clear h0 hab HGV
            generalize atI xs = at_ at *
            generalize xs.length = ln at *
            go_wp2_with fail
            refine wpIn_wide.2 ?_
            go_wp2_with fail
            refine wp_region_still_tail 11 (by kernel_rfl) (by kernel_rfl) ?_
            simp only [List.take_succ_cons, List.take_zero, List.drop_succ_cons, List.drop_zero]
            refine wpStill_step (fun K hK => ?_); have HKK := Lib.hid hK; clear hK; go_simp; generalize hact : ({ tmps := _, defers := _ } : Act) = act; refine HKK.out _ ?_; clear HKK K
            refine wpStill_step (fun K hK => ?_); have HKK := Lib.hid hK; clear hK; subst hact; go_simp; generalize hact : ({ tmps := _, defers := _ } : Act) = act; refine HKK.out _ ?_; clear HKK K
            refine wpStill_step (fun K hK => ?_); have HKK := Lib.hid hK; clear hK; subst hact; go_simp; generalize hact : ({ tmps := _, defers := _ } : Act) = act; refine HKK.out _ ?_; clear HKK K
            refine wpStill_step (fun K hK => ?_); have HKK := Lib.hid hK; clear hK; subst hact; go_simp; generalize hact : ({ tmps := _, defers := _ } : Act) = act; refine HKK.out _ ?_; clear HKK K
            refine wpStill_step (fun K hK => ?_); have HKK := Lib.hid hK; clear hK; subst hact; go_simp; generalize hact : ({ tmps := _, defers := _ } : Act) = act; refine HKK.out _ ?_; clear HKK K
            refine wpStill_step (fun K hK => ?_); have HKK := Lib.hid hK; clear hK; subst hact; go_simp; generalize hact : ({ tmps := _, defers := _ } : Act) = act; refine HKK.out _ ?_; clear HKK K
            refine wpStill_step (fun K hK => ?_); have HKK := Lib.hid hK; clear hK; subst hact; go_simp; generalize hact : ({ tmps := _, defers := _ } : Act) = act; refine HKK.out _ ?_; clear HKK K
            refine wpStill_step (fun K hK => ?_); have HKK := Lib.hid hK; clear hK; subst hact; go_simp; generalize hact : ({ tmps := _, defers := _ } : Act) = act; refine HKK.out _ ?_; clear HKK K
            refine wpStill_step (fun K hK => ?_); have HKK := Lib.hid hK; clear hK; subst hact; go_simp; generalize hact : ({ tmps := _, defers := _ } : Act) = act; refine HKK.out _ ?_; clear HKK K
            refine wpStill_step (fun K hK => ?_); have HKK := Lib.hid hK; clear hK; subst hact; go_simp; generalize hact : ({ tmps := _, defers := _ } : Act) = act; refine HKK.out _ ?_; clear HKK K
            refine wpStill_step (fun K hK => ?_); have HKK := Lib.hid hK; clear hK; subst hact; go_simp; generalize hact : ({ tmps := _, defers := _ } : Act) = act; refine HKK.out _ ?_; clear HKK K
            refine wpStill_nil ?_
            subst hact
            go_wp2_with fail
            have hDl := heap_lt HK.out
            have HDn : Hid (D ≠ w.heap.size + 1) := by have := HI.out.box.b2.lt; intro e; have h1 : wr.heap[w.heap.size + 1]? = _ := HI.out.box.b2; have h2 := HK.out; rw [e, h1] at h2; cases h2
            have hK' : (wr.drew.setCell ⟨w.heap.size + 1, 0, none⟩ (.bool true)).heap[D]? = some (.deferred (some [])) := (heap_setCell_other wr.drew _ _ _ HDn.out).trans HK.out
            have hbx := Boxed.set (W := wr.drew) (.bool true) HI.out.box.b2
            have hs := Sim.putObj (wr.drew.setCell ⟨w.heap.size + 1, 0, none⟩ (.bool true)) (B0 := w.heap.size) (.deferred none) (by omega) hK' rfl
            refine ⟨by simp, .inl ⟨_, _, rfl, run_takeDeferred hK', ?_⟩⟩
            refine ⟨_, results_box rfl _ _ (w.heap.size + 1) true rfl (boxed_sim hbx hs).cell, rfl, ?_⟩
            have hb : Below w.heap.size w (wr.drew.setCell ⟨w.heap.size + 1, 0, none⟩ (.bool true)) := (HI.out.bel.trans ⟨rfl, rfl, rfl, Nat.le_refl _, fun _ _ => rfl⟩ : Below w.heap.size w wr.drew).setCell (p := ⟨w.heap.size + 1, 0, none⟩) (by show w.heap.size ≤ w.heap.size + 1; omega) _
            exact ⟨hs.os.trans hb.os, hs.tape.trans hb.tape, hs.output.trans hb.output, Nat.le_trans hb.size hs.size, fun k hk => (hs.low k hk).trans (hb.block k hk)⟩
          · have HGT := HGV.out h0
            have hl0 : 0 < xs.length := List.length_pos_iff.2 h0
            have hl1 : ((xs.length : Nat) : Int) ≠ 0 := by omega
            have e0 : (((xs.length : Nat) : Int) == 0) = false := by simpa using hl1
            generalize atI xs = at_ at *
            have hyw : IntKind.i64.wrap (at_ + 1) = at_ + 1 := IntWalk.i64_in _ (by omega)
            have HP : Hid (∀ X : World, Calls Try.prog 22 #[.int .i64 (at_ + 1), .int .i64 512] X fun e w' => e = .returned (.int .i64 (plc5 (at_ + 1) : Nat)) ∧ w' = X) := fun X => (place5_any (at_ + 1) X).mono fun e w' h => ⟨h.1, h.2.symm⟩
            have hd := plc5_lt (at_ + 1)
            have HG := Lib.hid (get_any wr.drew (p + 1) g lb (HT.out.below (drewN_below wr 1)) (plc5 (at_ + 1)) hd)
            rw [HGT] at HG
            generalize plc5 (at_ + 1) = d at *
            have HG2 : Hid (Calls Try.prog 23 #[.pointer (some ⟨p + 1, 0, none⟩), .int .i64 d] wr.drew fun e w' => e = .returned (.int .i64 v) ∧ w' = wr.drew) := HG.out.mono fun e w' h => ⟨h.1, h.2.symm⟩
            clear HG HGT hl1
            generalize xs.length = ln at *
            go_wp2_with fail
            refine wpIn_wide.2 ?_
            go_wp2_with fail
            refine wp_region_still_tail 11 (by kernel_rfl) (by kernel_rfl) ?_
            simp only [List.take_succ_cons, List.take_zero, List.drop_succ_cons, List.drop_zero]
            refine wpStill_step (fun K hK => ?_); have HKK := Lib.hid hK; clear hK; go_simp; refine HKK.out _ ?_; clear HKK K
            refine wpStill_step (fun K hK => ?_); have HKK := Lib.hid hK; clear hK; go_simp; refine HKK.out _ ?_; clear HKK K
            refine wpStill_step (fun K hK => ?_); have HKK := Lib.hid hK; clear hK; go_simp; refine HKK.out _ ?_; clear HKK K
            refine wpStill_step (fun K hK => ?_); have HKK := Lib.hid hK; clear hK; go_simp; refine HKK.out _ ?_; clear HKK K
            refine wpStill_step (fun K hK => ?_); have HKK := Lib.hid hK; clear hK; go_simp; refine HKK.out _ ?_; clear HKK K
            refine wpStill_step (fun K hK => ?_); have HKK := Lib.hid hK; clear hK; go_simp; refine HKK.out _ ?_; clear HKK K
            refine wpStill_step (fun K hK => ?_); have HKK := Lib.hid hK; clear hK; go_simp; refine ⟨_, HP.out _, HKK.out _ ?_⟩; clear HKK K
            refine wpStill_step (fun K hK => ?_); have HKK := Lib.hid hK; clear hK; go_simp; refine ⟨_, HG2.out, HKK.out _ ?_⟩; clear HKK K
            refine wpStill_step (fun K hK => ?_); have HKK := Lib.hid hK; clear hK; go_simp; refine HKK.out _ ?_; clear HKK K
            refine wpStill_step (fun K hK => ?_); have HKK := Lib.hid hK; clear hK; go_simp; refine HKK.out _ ?_; clear HKK K
            refine wpStill_step (fun K hK => ?_); have HKK := Lib.hid hK; clear hK; go_simp; refine HKK.out _ ?_; clear HKK K
            refine wpStill_nil ?_
            go_wp2_with fail
            have hDl := heap_lt HK.out
            have HDn : Hid (D ≠ w.heap.size + 1) := by have := HI.out.box.b2.lt; intro e; have h1 : wr.heap[w.heap.size + 1]? = _ := HI.out.box.b2; have h2 := HK.out; rw [e, h1] at h2; cases h2
            have hK' : (wr.drew.setCell ⟨w.heap.size + 1, 0, none⟩ (.bool true)).heap[D]? = some (.deferred (some [])) := (heap_setCell_other wr.drew _ _ _ HDn.out).trans HK.out
            have hbx := Boxed.set (W := wr.drew) (.bool true) HI.out.box.b2
            have hs := Sim.putObj (wr.drew.setCell ⟨w.heap.size + 1, 0, none⟩ (.bool true)) (B0 := w.heap.size) (.deferred none) (by omega) hK' rfl
            refine ⟨by simp, .inl ⟨_, _, rfl, run_takeDeferred hK', ?_⟩⟩
            refine ⟨_, results_box rfl _ _ (w.heap.size + 1) true rfl (boxed_sim hbx hs).cell, rfl, ?_⟩
            have hb : Below w.heap.size w (wr.drew.setCell ⟨w.heap.size + 1, 0, none⟩ (.bool true)) := (HI.out.bel.trans ⟨rfl, rfl, rfl, Nat.le_refl _, fun _ _ => rfl⟩ : Below w.heap.size w wr.drew).setCell (p := ⟨w.heap.size + 1, 0, none⟩) (by show w.heap.size ≤ w.heap.size + 1; omega) _
            exact ⟨hs.os.trans hb.os, hs.tape.trans hb.tape, hs.output.trans hb.output, Nat.le_trans hb.size hs.size, fun k hk => (hs.low k hk).trans (hb.block k hk)⟩
    case stop =>
      rintro D j pre W _ _ h _
      exact h.elim

theorem RadixAmid.walk (W : World) (v0 : Value) (o0 : AmidV W v0) : Calls Try.prog 3 #[v0] W fun e w' => e = .returned (.bool true) ∧ Below W.heap.size W w' := by
  obtain ⟨A, n, c, l, frm, cut, V, rfl, hr, h1, h2, h3, h4⟩ := o0
  exact callsIn_wide.1 (radixAmid_any W A n c l hr frm cut V h1 h2 h3 h4)

end Go.Proofs.Ytfljnfmocmhhdaa
