/-
What the statement RadixLater computes of any two scripts that together are no longer than memory's half, and any offset: true.
-/
import Derived.Test.YtfljnfmocmhhdaaLAmid
import Derived.Test.YtfljnfmocmhhdaaWApp
import Derived.Laws.EntriesVeiled
import Derived.Deep.DeepCutAuto
import Derived.Deep.CutBlock
namespace Go.Proofs.Ytfljnfmocmhhdaa
open Go.RowKit Go.Shelf
attribute [local go_sem] Oper.semAt_some

/-- the boxes, and the tree, wherever it has grown to -/
structure LtM (w : World) (frm : Int) (r q : Nat) (g : Nat → Int) (W : World) : Prop where
  b5 : Boxed W w.heap.size 3 (.int .i64 frm)
  b6 : Boxed W (w.heap.size + 1) 4 (.bool false)
  b7 : Boxed W q 25 (.pointer (some ⟨r, 0, none⟩))
  bt : Boxed W (q + 1) 25 (.pointer (some ⟨r, 0, none⟩))
  bo : Boxed W (q + 1 + 1) 3 (.int .i64 frm)
  b9 : Boxed W (q + 1 + 1 + 1) 29 (.func (.func 51) #[] #[.pointer (some ⟨q + 1 + 1, 0, none⟩), .pointer (some ⟨q + 1, 0, none⟩)])
  tree : ∃ lb, TreeI W r g lb ∧ ∀ b, lb b ≠ 0 → w.heap.size + 2 ≤ b ∧ (b < q ∨ q + 4 ≤ b)
  bel : Below w.heap.size w W
section
variable {w : World} {frm : Int} {r q : Nat} {g : Nat → Int} {W W' : World}
theorem LtM.chg {D : Nat → Prop} (h : LtM w frm r q g W) (hc : Chg D W W') (_hq : w.heap.size + 2 ≤ q) {lb : Nat → Nat} {g' : Nat → Int} (ht : TreeI W' r g' lb) (hl : ∀ b, lb b ≠ 0 → w.heap.size + 2 ≤ b ∧ (b < q ∨ q + 4 ≤ b)) (hD : ∀ b, D b → w.heap.size + 2 ≤ b ∧ (b < q ∨ q + 4 ≤ b)) : LtM w frm r q g' W' :=
  ⟨boxed_chg h.b5 hc (fun h => by have := hD _ h; omega), boxed_chg h.b6 hc (fun h => by have := hD _ h; omega), boxed_chg h.b7 hc (fun h => by have := hD _ h; omega), boxed_chg h.bt hc (fun h => by have := hD _ h; omega), boxed_chg h.bo hc (fun h => by have := hD _ h; omega), boxed_chg h.b9 hc (fun h => by have := hD _ h; omega),
    ⟨lb, ht, hl⟩, h.bel.trans (hc.below _ h.bel.size (fun b h1 h2 => by have := hD b h2; omega))⟩
theorem LtM.below (h : LtM w frm r q g W) (hb : Below W.heap.size W W') : LtM w frm r q g W' := by
  obtain ⟨lb, ht, hl⟩ := h.tree
  have hc := Chg.of_below (fun _ => False) hb
  exact ⟨boxed_chg h.b5 hc (fun h => h), boxed_chg h.b6 hc (fun h => h), boxed_chg h.b7 hc (fun h => h), boxed_chg h.bt hc (fun h => h), boxed_chg h.bo hc (fun h => h), boxed_chg h.b9 hc (fun h => h), ⟨lb, ht.below hb, hl⟩, below_lift h.bel hb⟩
end

theorem cellsT_one (l : List PutV) : ∀ u ∈ cellsT l, u.oneCell' = true := by
  intro u hu
  obtain ⟨p, _, hp⟩ := List.mem_flatMap.1 hu
  simp at hp
  rcases hp with rfl | rfl | rfl <;> rfl
theorem RdT.srcT {w : World} {A : Option Addr} {n c : Nat} {l : List PutV} (h : RdT w A n c l) (hA : A = none → c = 0) : SrcV w A n c 3 (cellsT l) := by
  obtain ⟨h1, h2, _, _, h5⟩ := h
  refine ⟨by rw [cellsT_len, h1], fun e => ⟨by have := hA e; omega, hA e⟩, fun ad e j u hj => ?_⟩
  have hjl := (List.getElem?_eq_some_iff.1 hj).1
  rw [cellsT_len, h1] at hjl
  obtain ⟨b, off, e', _, hh⟩ := h5 (by omega)
  rw [e'] at e
  injection e with e
  subst e
  rw [Go.WideShapes.add_plain]
  have hi : j / 3 < l.length := by omega
  obtain ⟨d0, d1, d2⟩ := hh (j / 3) l[j / 3] (List.getElem?_eq_getElem hi)
  obtain ⟨t0, t1, t2⟩ := cellsT_at l (j / 3) l[j / 3] (List.getElem?_eq_getElem hi)
  rcases (by omega : j % 3 = 0 ∨ j % 3 = 1 ∨ j % 3 = 2) with h3 | h3 | h3
  · rw [show j / 3 * 3 = j by omega, hj] at t0
    rw [show off + j = off + j / 3 * 3 by omega, d0, Option.some.inj t0]
  · rw [show j / 3 * 3 + 1 = j by omega, hj] at t1
    rw [show off + j = off + j / 3 * 3 + 1 by omega, d1, Option.some.inj t1]
  · rw [show j / 3 * 3 + 2 = j by omega, hj] at t2
    rw [show off + j = off + j / 3 * 3 + 2 by omega, d2, Option.some.inj t2]

theorem boxes4 (w : World) (t0 t1 t2 t3 : TypeId) (v0 v1 v2 v3 : Value) (W : World) (hW : (((w.alloc (.cells #[v0] t0)).alloc (.cells #[v1] t1)).alloc (.cells #[v2] t2)).alloc (.cells #[v3] t3) = W) :
    W.heap.size = w.heap.size + 4 ∧ Boxed W w.heap.size t0 v0 ∧ Boxed W (w.heap.size + 1) t1 v1 ∧ Boxed W (w.heap.size + 1 + 1) t2 v2 ∧ Boxed W (w.heap.size + 1 + 1 + 1) t3 v3 ∧ Below w.heap.size w W := by
  obtain ⟨W3, hW3⟩ : ∃ X, ((w.alloc (.cells #[v0] t0)).alloc (.cells #[v1] t1)).alloc (.cells #[v2] t2) = X := ⟨_, rfl⟩
  obtain ⟨hsz, h0, h1, h2, hb⟩ := boxes3 _ _ _ _ _ _ _ W3 _ rfl hW3
  rw [hW3] at hW
  subst hW
  have hn := Boxed.new W3 t3 v3
  rw [hsz] at hn
  exact ⟨by simp [hsz], h0.alloc _, h1.alloc _, h2.alloc _, hn, hb.alloc hb.size _⟩

/-- a function leaves with three marks among its deferred calls -/
theorem leave3 {w W : World} {D1 D2 D3 : Nat} {tmps : Array Value} (k1 : W.heap[D1]? = some (.deferred (some []))) (k2 : W.heap[D2]? = some (.deferred (some []))) (k3 : W.heap[D3]? = some (.deferred (some []))) (h12 : D1 ≠ D2) (h13 : D1 ≠ D3) (h23 : D2 ≠ D3)
    (l1 : w.heap.size ≤ D1) (l2 : w.heap.size ≤ D2) (l3 : w.heap.size ≤ D3) (hbx : Boxed W (w.heap.size + 1) 4 (.bool true)) (hb : Below w.heap.size w W) (ht : tmps.getD 6 undef = .pointer (some ⟨w.heap.size + 1, 0, none⟩)) :
    LeavesInM Fence.wide 6 Try.prog Try.f4 tmps (fun e w' => e = .returned (.bool true) ∧ Below w.heap.size w w') [{ target := .collected D3, args := #[] }, { target := .collected D2, args := #[] }, { target := .collected D1, args := #[] }] .returning W := by
  have s3 := Sim.putObj W (B0 := w.heap.size) (.deferred none) l3 k3 rfl
  have k2' : (W.putObj D3 (.deferred none)).heap[D2]? = some (.deferred (some [])) := (World.putObj_heap_other h23).trans k2
  have k1' : (W.putObj D3 (.deferred none)).heap[D1]? = some (.deferred (some [])) := (World.putObj_heap_other h13).trans k1
  have s2 := Sim.putObj (W.putObj D3 (.deferred none)) (B0 := w.heap.size) (.deferred none) l2 k2' rfl
  have k1'' : ((W.putObj D3 (.deferred none)).putObj D2 (.deferred none)).heap[D1]? = some (.deferred (some [])) := (World.putObj_heap_other h12).trans k1'
  have s1 := Sim.putObj ((W.putObj D3 (.deferred none)).putObj D2 (.deferred none)) (B0 := w.heap.size) (.deferred none) l1 k1'' rfl
  have hs := (s3.trans s2).trans s1
  refine ⟨by simp, .inl ⟨_, _, rfl, run_takeDeferred k3, ?_⟩⟩
  refine ⟨by simp, .inl ⟨_, _, rfl, run_takeDeferred k2', ?_⟩⟩
  refine ⟨by simp, .inl ⟨_, _, rfl, run_takeDeferred k1'', ?_⟩⟩
  refine ⟨_, results_box rfl _ _ (w.heap.size + 1) true ht (boxed_sim hbx hs).cell, rfl, ?_⟩
  exact ⟨hs.os.trans hb.os, hs.tape.trans hb.tape, hs.output.trans hb.output, Nat.le_trans hb.size hs.size, fun k hk => (hs.low k hk).trans (hb.block k hk)⟩

/-- how often 511 has come with 7 -/
def cnt3 (pre : List (Nat × Int)) : Nat := (pre.filter fun x => decide (x.1 = 511 ∧ x.2 = 7)).length
theorem cnt3_snoc (pre : List (Nat × Int)) (x : Nat × Int) : cnt3 (pre ++ [x]) = cnt3 pre + if x.1 = 511 ∧ x.2 = 7 then 1 else 0 := by
  unfold cnt3
  rw [List.filter_append, List.length_append]
  by_cases h : x.1 = 511 ∧ x.2 = 7 <;> simp [h]
theorem cnt3_le (pre : List (Nat × Int)) : cnt3 pre ≤ pre.length := List.length_filter_le _ _
theorem cnt3_all (g : Nat → Int) (frm : Int) : cnt3 (items (upd g 511 7) 0 frm 512) = if frm ≤ 511 then 1 else 0 := by
  have e := items_succ (upd g 511 7) 0 frm 511
  have h0 : cnt3 (items (upd g 511 7) 0 frm 511) = 0 := by
    unfold cnt3
    rw [List.length_eq_zero_iff, List.filter_eq_nil_iff]
    intro x hx
    have := (items_mem hx).1
    simp
    omega
  rw [upd_same, Nat.zero_add] at e
  rw [show (512 : Nat) = 511 + 1 from rfl, e]
  by_cases h : frm ≤ 511
  · rw [if_pos ⟨by omega, by omega⟩, if_pos h, cnt3_snoc, h0, if_pos ⟨rfl, rfl⟩]
  · rw [if_neg (fun h' => h (by have := h'.1; omega)), if_neg h, List.append_nil, h0]

set_option maxRecDepth 100000 in
set_option maxHeartbeats 16000000 in
theorem radixLater_any (w : World) (A : Option Addr) (n c : Nat) (l : List PutV) (hr : RdT w A n c l) (hA : A = none → c = 0) (A' : Option Addr) (n' c' : Nat) (l' : List PutV) (hr' : RdT w A' n' c' l') (hA' : A' = none → c' = 0) (hnn : (n + n') * 24 ≤ 140737488355328) (frm : Int) (hf1 : -9223372036854775808 ≤ frm) :
    CallsIn Fence.wide 6 Try.prog 4 #[.slice A n c, .slice A' n' c', .int .i64 frm] w fun e w' => e = .returned (.bool true) ∧ Below w.heap.size w w' := by
  have HGR := Lib.hid (fun (X : World) (hX : Below w.heap.size w X) => grown_any X A n c l (hr.below hX))
  obtain ⟨i0, gi, gz0, gz1, gz2⟩ := info_parts info41
  have HR := Lib.hid hr
  have HR' := Lib.hid hr'
  have hnc' := hr'.2.1
  have hn24 := hr'.2.2.1
  clear hr hr'
  refine callsIn_of_wp_marks Try.func4 rfl trivial (wpIn_wide.2 ?_) rfl
  simp only [Try.ntmps4, List.size_toArray, List.length_cons, List.length_nil, Nat.reduceAdd, Nat.reduceSub, Array.replicate_succ, Array.replicate_zero, List.push_toArray, List.append_toArray, List.nil_append, List.cons_append]
  go_wp2_with fail
  obtain ⟨W0, hW0⟩ : ∃ X, (w.alloc (.cells #[.int .i64 frm] 3)).alloc (.cells #[.bool false] 4) = X := ⟨_, rfl⟩
  obtain ⟨hsz0, d5, d6, hbl0⟩ : W0.heap.size = w.heap.size + 2 ∧ Boxed W0 w.heap.size 3 (.int .i64 frm) ∧ Boxed W0 (w.heap.size + 1) 4 (.bool false) ∧ Below w.heap.size w W0 := by
    subst hW0
    refine ⟨by simp, (Boxed.new w 3 _).alloc _, ?_, ((Below.refl _ _).alloc (Nat.le_refl _) _).alloc (by simp) _⟩
    have := Boxed.new (w.alloc (.cells #[.int .i64 frm] 3)) 4 (.bool false)
    rwa [World.size_alloc] at this
  rw [hW0]
  clear hW0
  refine (HGR.out W0 hbl0).mono ?_
  rintro e W1 ⟨rfl, hg⟩
  obtain ⟨lb, ht, hl⟩ := hg.tree
  have hB1 := hg.bel
  have hHL := hl
  generalize hf : runP (l.take 400) = f at *
  obtain ⟨r, hr0⟩ : ∃ r, W0.heap.size + 1 = r := ⟨_, rfl⟩
  rw [hr0] at ht ⊢
  have hrl := ht.dom r (by rw [ht.lr]; decide)
  obtain ⟨q, hq⟩ : ∃ q, W1.heap.size = q := ⟨_, rfl⟩
  have hqq : w.heap.size + 2 ≤ q := by omega
  obtain ⟨W2, hW2⟩ : ∃ X, (((W1.alloc (.cells #[.pointer (some ⟨r, 0, none⟩)] 25)).alloc (.cells #[.pointer (some ⟨r, 0, none⟩)] 25)).alloc (.cells #[.int .i64 frm] 3)).alloc (.cells #[.func (.func 51) #[] #[.pointer (some ⟨q + 1 + 1, 0, none⟩), .pointer (some ⟨q + 1, 0, none⟩)]] 29) = X := ⟨_, rfl⟩
  obtain ⟨hsz2, k0, k1, k2, k3, hbl2⟩ := boxes4 _ _ _ _ _ _ _ _ _ W2 hW2
  rw [hq] at hsz2 k0 k1 k2 k3
  have HM0 : Hid (LtM w frm r q f W2) := ⟨boxed_chg (boxed_chg d5 (Chg.of_below (fun _ => False) hB1) (fun h => h)) (Chg.of_below (fun _ => False) hbl2) (fun h => h), boxed_chg (boxed_chg d6 (Chg.of_below (fun _ => False) hB1) (fun h => h)) (Chg.of_below (fun _ => False) hbl2) (fun h => h), k0, k1, k2, k3,
    ⟨lb, ht.below hbl2, fun b hb => ⟨by have := hHL b hb; omega, .inl (by have := ht.dom b hb; omega)⟩⟩, below_lift (below_lift hbl0 hB1) hbl2⟩
  have hz2 : q + 4 ≤ W2.heap.size := by omega
  have c5 := (boxed_chg d5 (Chg.of_below (fun _ => False) hB1) (fun h => h)).cell
  have hq1 : w.heap.size < W1.heap.size := by omega
  have hq2 : w.heap.size + 1 < W1.heap.size := by omega
  clear hsz0 d5 d6 hbl0 hg ht hl hHL hB1 hr0 hsz2 k0 k1 k2 k3 hbl2 HGR
  have HQ := Lib.hid hq
  have HW2 := Lib.hid hW2
  clear hq hW2
  go_upto_block 0 with (go_at_call 18; refine (from_any _ r frm).mono ?_; rintro e w1 ⟨rfl, rfl⟩)
  rw [HQ.out, HW2.out]
  clear HQ HW2 c5 hq1 hq2
  go_cut [10] from 35 to 68 (fun _ wx => q + 4 ≤ wx.heap.size ∧ Hid (LtM w frm r q ((l'.take 400).foldl stepP f) wx))
  case first =>
    go_wp2_with fail
    go_loopw [10] (fun v10 wr => ∃ k : Nat, k ≤ n' ∧ k ≤ 400 ∧ v10 = .int .i64 k ∧ q + 4 ≤ wr.heap.size ∧ Hid (LtM w frm r q ((l'.take k).foldl stepP f) wr)) (fun v10 _ => n' - (intOf v10).toNat)
    case atStart => exact ⟨0, by omega, by omega, rfl, hz2, HM0⟩
    case round =>
      clear HM0
      obtain ⟨k, hk, hk4, rfl, hz, HM⟩ := hrel
      by_cases hlt : k < n'
      · by_cases h400 : k < 400
        · have hbel := HM.out.bel
          obtain ⟨_, _, _, hok, hrd⟩ := HR'.out.below hbel
          obtain ⟨b0, off0, e0, hbw, _⟩ := HR'.out.2.2.2.2 (by omega)
          obtain ⟨b, off, rfl, _, hh⟩ := hrd (by omega)
          obtain ⟨rfl, rfl⟩ : b = b0 ∧ off = off0 := by injection e0 with e0; injection e0 with e1 e2; exact ⟨e1, e2⟩
          obtain ⟨p, hp⟩ : ∃ p, l'[k]? = some p := ⟨_, List.getElem?_eq_getElem (by have := HR'.out.1; omega)⟩
          obtain ⟨d0, d1, d2⟩ := hh k p hp
          have hts := take_succ_get l' k p hp
          have hO := (hok p (List.mem_of_getElem? hp)).1
          obtain ⟨cut, O, V⟩ := p
          have hls : (l'.take (k + 1)).foldl stepP f = if cut then cutI ((l'.take k).foldl stepP f) O else updI ((l'.take k).foldl stepP f) O V := by rw [hts, List.foldl_append]; rfl
          simp only at d0 d1 d2 hO
          generalize hgk : (l'.take k).foldl stepP f = gk at *
          obtain ⟨lb, ht, hl⟩ := HM.out.tree
          have c7 := HM.out.b7.cell
          have HT := Lib.hid ht
          have HL := Lib.hid hl
          have hnb : ¬ Of lb b := fun h => by have := hl b h; omega
          clear hts hp hh hok hrd ht hl e0 hbel
          rcases cut with _ | _
          · simp only [Bool.false_eq_true, if_false] at hls
            have HS := Lib.hid (set_all wr.drew _ _ lb (HT.out.below (drewN_below wr 1)) O V)
            have HLS := Lib.hid hls
            clear hls
            go_wp2_with fail
            refine wp_region_still_tail 11 (by kernel_rfl) (by kernel_rfl) ?_
            simp only [List.take_succ_cons, List.take_zero, List.drop_succ_cons, List.drop_zero]
            refine wpStill_step (fun K hK => ?_); have HKK := Lib.hid hK; clear hK; go_simp; refine HKK.out _ ?_; clear HKK K
            refine wpStill_step (fun K hK => ?_); have HKK := Lib.hid hK; clear hK; go_simp; refine HKK.out _ ?_; clear HKK K
            refine wpStill_step (fun K hK => ?_); have HKK := Lib.hid hK; clear hK; go_simp; refine HKK.out _ ?_; clear HKK K
            refine wpStill_step (fun K hK => ?_); have HKK := Lib.hid hK; clear hK; go_simp; refine HKK.out _ ?_; clear HKK K
            refine wpStill_step (fun K hK => ?_); have HKK := Lib.hid hK; clear hK; go_simp; refine HKK.out _ ?_; clear HKK K
            refine wpStill_step (fun K hK => ?_); have HKK := Lib.hid hK; clear hK; go_simp; refine HKK.out _ ?_; clear HKK K
            refine wpStill_step (fun K hK => ?_); have HKK := Lib.hid hK; clear hK; go_simp; refine HKK.out _ ?_; clear HKK K
            refine wpStill_step (fun K hK => ?_); have HKK := Lib.hid hK; clear hK; go_simp; refine HKK.out _ ?_; clear HKK K
            refine wpStill_step (fun K hK => ?_); have HKK := Lib.hid hK; clear hK; go_simp; refine HKK.out _ ?_; clear HKK K
            refine wpStill_step (fun K hK => ?_); have HKK := Lib.hid hK; clear hK; go_simp; refine HKK.out _ ?_; clear HKK K
            refine wpStill_step (fun K hK => ?_); have HKK := Lib.hid hK; clear hK; go_simp; refine HKK.out _ ?_; clear HKK K
            refine wpStill_nil ?_
            go_wp2_with fail
            refine HS.out.mono ?_
            rintro e W3 ⟨rfl, lb2, ht2, hx2, hc2⟩
            have hz3 : q + 4 ≤ W3.heap.size := Nat.le_trans hz hc2.size
            have HE : Hid (LtM w frm r q ((l'.take (k + 1)).foldl stepP f) W3) := by
              rw [HLS.out]
              exact (HM.out.below (drewN_below wr 1)).chg hc2 hqq ht2 (fun b hb => (hx2.1 b hb).elim (HL.out b) (fun e => by have e : wr.heap.size ≤ b := e; omega)) (fun b hb => HL.out b hb)
            clear hc2 ht2 hx2 HS HLS HM HT HL
            go_wp2_with fail
            go_roundw
            case rel => exact ⟨k + 1, by omega, by omega, by go_num, hz3, HE⟩
            case measure => simp [intOf]; omega
          · simp only [if_true] at hls
            have HLS := Lib.hid hls
            clear hls
            have HS := Lib.hid (cut_calls wr.drew _ _ lb (HT.out.below (drewN_below wr 1)) O hO)
            go_wp2_with fail
            refine wp_region_still_tail 6 (by kernel_rfl) (by kernel_rfl) ?_
            simp only [List.take_succ_cons, List.take_zero, List.drop_succ_cons, List.drop_zero]
            refine wpStill_step (fun K hK => ?_); have HKK := Lib.hid hK; clear hK; go_simp; refine HKK.out _ ?_; clear HKK K
            refine wpStill_step (fun K hK => ?_); have HKK := Lib.hid hK; clear hK; go_simp; refine HKK.out _ ?_; clear HKK K
            refine wpStill_step (fun K hK => ?_); have HKK := Lib.hid hK; clear hK; go_simp; refine HKK.out _ ?_; clear HKK K
            refine wpStill_step (fun K hK => ?_); have HKK := Lib.hid hK; clear hK; go_simp; refine HKK.out _ ?_; clear HKK K
            refine wpStill_step (fun K hK => ?_); have HKK := Lib.hid hK; clear hK; go_simp; refine HKK.out _ ?_; clear HKK K
            refine wpStill_step (fun K hK => ?_); have HKK := Lib.hid hK; clear hK; go_simp; refine HKK.out _ ?_; clear HKK K
            refine wpStill_nil ?_
            go_wp2_with fail
            refine HS.out.mono ?_
            rintro e W3 ⟨vv, rfl, _, ht2, hc2⟩
            have hz3 : q + 4 ≤ W3.heap.size := Nat.le_trans hz hc2.size
            have HE : Hid (LtM w frm r q ((l'.take (k + 1)).foldl stepP f) W3) := by
              rw [HLS.out]
              exact (HM.out.below (drewN_below wr 1)).chg hc2 hqq ht2 HL.out (fun b hb => HL.out b hb)
            clear hc2 ht2 HS HLS HM HT HL
            go_wp2_with fail
            go_roundw
            case rel => exact ⟨k + 1, by omega, by omega, by go_num, hz3, HE⟩
            case measure => simp [intOf]; omega
        · have hk5 : k = 400 := by omega
          subst hk5
          go_wp2_with fail
          go_meet
          exact ⟨hz, HM⟩
      · have hE := Lib.hid (show l'.take k = l'.take 400 by have := HR'.out.1; rw [List.take_of_length_le (by omega), List.take_of_length_le (by omega)])
        go_wp2_with fail
        go_meet
        exact ⟨hz, by rw [← hE.out]; exact HM⟩
  case rest =>
    obtain ⟨hz, HM⟩ := hcut
    generalize hg : (l'.take 400).foldl stepP f = g at *
    have HLB := Lib.hid (HR.out.below HM.out.bel)
    have HS1 := Lib.hid (HLB.out.srcT hA)
    have HS2 := Lib.hid ((HR'.out.below HM.out.bel).srcT hA')
    have hn1 := HR.out.2.2.1
    have HF1 : Hid (∀ v X, X.ownsRow wc.heap.size 41 3 v (0 + n) ([] ++ cellsT l) → wc.grownBy X (Value.slice none 0 0).ownBlock → Hid (X.ownsRow wc.heap.size 41 3 v n (cellsT l)) ∧ Hid (SrcV X A' n' c' 3 (cellsT l')) ∧ Below wc.heap.size wc X) := fun v X ho hgr => by
      have hb : Below wc.heap.size wc X := by
        refine ((Chg.refl (fun _ => False) wc).grown hgr (fun k e _ => ?_)).below _ (Nat.le_refl _) (fun _ _ e => e)
        cases e
      rw [Nat.zero_add, List.nil_append] at ho
      exact ⟨ho, HS2.out.below hb, hb⟩
    have HF2 : Hid (∀ v X v' X', X.ownsRow wc.heap.size 41 3 v n (cellsT l) → Below wc.heap.size wc X → X'.ownsRow wc.heap.size 41 3 v' (n + n') (cellsT l ++ cellsT l') → X.grownBy X' v.ownBlock → ∃ A2 c2, v' = .slice A2 (n + n') c2 ∧ Hid (RdT X' A2 (n + n') c2 (l ++ l')) ∧ Hid (Below wc.heap.size wc X') ∧ n + n' ≤ c2) := fun v X v' X' ho hb ho' hgr => by
      rw [← cellsT_append] at ho'
      obtain ⟨A2, c2, e, hr2⟩ := RdT.own ho' (by rw [List.length_append, HR.out.1, HR'.out.1]) hnn (fun p hp => by
        rcases List.mem_append.1 hp with hp | hp
        · exact HR.out.2.2.2.1 p hp
        · exact HR'.out.2.2.2.1 p hp)
      exact ⟨A2, c2, e, hr2, hb.trans (below_grown0 ho hb.size hgr), hr2.2.1⟩
    go_wp2_with (first | (at_builtin; refine wpList_append_src _ rfl _ _ 22 rfl wc.heap.size 41 i0 (.agg #[.bool false, .int .i64 0, .int .i64 0]) 3 24 Try.underlying22 gi gz0 gz1 gz2 rfl (by decide) (.slice none 0 0) 0 [] rfl (World.ownsRow_nil _ _ _ _) A n c (cellsT l) rfl HS1.out (cellsT_one _) (by simp only [maxLen]; omega) (by omega) (Nat.le_refl _) ?_; intro v3 W3 hown3 hgr3; obtain ⟨HO3, HS3, HB3⟩ := HF1.out v3 W3 hown3 hgr3; clear hown3 hgr3; have hs3 := HB3.size) | (at_builtin; refine wpList_append_src _ rfl _ _ 22 rfl wc.heap.size 41 i0 (.agg #[.bool false, .int .i64 0, .int .i64 0]) 3 24 Try.underlying22 gi gz0 gz1 gz2 rfl (by decide) v3 n (cellsT l) rfl HO3.out A' n' c' (cellsT l') rfl HS3.out (cellsT_one _) (by simp only [maxLen]; omega) (by omega) hs3 ?_; intro v4 W4 hown4 hgr4; obtain ⟨A2, c2, rfl, HR2, HB4, hnc2⟩ := HF2.out v3 W3 v4 W4 HO3.out HB3 hown4 hgr4; clear hown4 hgr4))
    have HM4 := Lib.hid (HM.out.below HB4.out)
    have hz4 : q + 4 ≤ W4.heap.size := Nat.le_trans hz HB4.out.size
    clear HO3 HS3 HB3 hs3 HF1 HF2 HS1 HS2 HM hz HB4 HLB
    obtain ⟨gw, hgw⟩ : ∃ gw, W4.heap.size = gw := ⟨_, rfl⟩
    have HGW := Lib.hid hgw
    have HB0 : Hid (Below gw W4 (W4.alloc (.cells #[.int .i64 0] 3)) ∧ Boxed (W4.alloc (.cells #[.int .i64 0] 3)) gw 3 (.int .i64 0)) := by rw [← hgw]; exact ⟨(Below.refl _ _).alloc (Nat.le_refl _) _, Boxed.new _ _ _⟩
    rw [hgw] at hz4 ⊢
    clear hgw
    have HGG : Hid (n ≤ 400 → n + n' ≤ 400 → ∀ i, i < 512 → g i = lastP ((l ++ l').take 400) i) := fun h1 h2 i hi => by
      rw [← run_last _ i hi, List.take_of_length_le (by rw [List.length_append, HR.out.1, HR'.out.1]; exact h2), ← hg, ← hf, List.take_of_length_le (by rw [HR.out.1]; exact h1), List.take_of_length_le (by rw [HR'.out.1]; omega)]
      unfold runP
      rw [List.foldl_append]
    obtain ⟨lb4, ht4, hl4⟩ := HM4.out.tree
    have HT4 := Lib.hid ht4
    have HGETA := Lib.hid (fun (X : World) (hX : Below gw W4 X) k (hk : k < 512) => get_any X r g lb4 (HT4.out.below (by rw [HGW.out]; exact hX)) k hk)
    have HLASTA := Lib.hid (fun (X : World) (hX : Below gw W4 X) x => last_any X A2 (n + n') c2 (l ++ l') (HR2.out.below (by rw [HGW.out]; exact hX)) x)
    have HMA := Lib.hid (fun (X : World) (hX : Below gw W4 X) => HM4.out.below (W' := X) (by rw [HGW.out]; exact hX))
    have HHL4 := Lib.hid hl4
    clear ht4 hl4
    go_loopw [13] (fun v13 wr => ∃ k : Nat, k ≤ 512 ∧ v13 = .int .i64 k ∧ Hid (Below gw W4 wr ∧ Boxed wr gw 3 (.int .i64 ((items g 0 frm k).length : Nat)))) (fun v13 _ => 512 - (intOf v13).toNat)
    case atStart => exact ⟨0, by omega, rfl, HB0⟩
    case round =>
      clear HB0
      obtain ⟨k, hk, rfl, HB⟩ := hrel
      have hik := items_len g 0 frm k
      by_cases hlt : k < 512
      · have hm := HMA.out wr HB.out.1
        have c5 := hm.b5.cell
        have c7 := hm.b7.cell
        have cw := HB.out.2.cell
        have fw := HB.out.2.frozen
        have HG1 := Lib.hid (HGETA.out wr HB.out.1 k hlt)
        have HL1 := Lib.hid (HLASTA.out wr HB.out.1 k)
        have hsn := items_succ g 0 frm k
        rw [Nat.zero_add] at hsn
        have hB2 : Below gw W4 (wr.setCell ⟨gw, 0, none⟩ (.int .i64 ((items g 0 frm k).length + 1 : Nat))) := HB.out.1.setCell (p := ⟨gw, 0, none⟩) (Nat.le_refl _) _
        have hb2 := HB.out.2.set (.int .i64 ((items g 0 frm k).length + 1 : Nat))
        have HG2 := Lib.hid (HGETA.out _ hB2 k hlt)
        have HL2 := Lib.hid (HLASTA.out _ hB2 k)
        have HE1 : Hid ((items g 0 frm (k + 1)).length = (items g 0 frm k).length → Below gw W4 wr ∧ Boxed wr gw 3 (.int .i64 ((items g 0 frm (k + 1)).length : Nat))) := fun e => by rw [e]; exact HB.out
        have HE2 : Hid ((items g 0 frm (k + 1)).length = (items g 0 frm k).length + 1 → Below gw W4 (wr.setCell ⟨gw, 0, none⟩ (.int .i64 ((items g 0 frm k).length + 1 : Nat))) ∧ Boxed (wr.setCell ⟨gw, 0, none⟩ (.int .i64 ((items g 0 frm k).length + 1 : Nat))) gw 3 (.int .i64 ((items g 0 frm (k + 1)).length : Nat))) := fun e => by rw [e]; exact ⟨hB2, hb2⟩
        have hgg := fun h1 h2 => HGG.out h1 h2 k hlt
        clear hm hB2 hb2 HB
        have hW : (frm ≤ k ∧ g k ≠ 0) ∨ (frm ≤ k ∧ g k = 0) ∨ ¬ frm ≤ (k : Int) := by
          by_cases h : frm ≤ (k : Int)
          · by_cases h2 : g k = 0
            · exact .inr (.inl ⟨h, h2⟩)
            · exact .inl ⟨h, h2⟩
          · exact .inr (.inr h)
        have hLL : (n ≤ 400 ∧ n + n' ≤ 400) ∨ (n ≤ 400 ∧ ¬ n + n' ≤ 400) ∨ ¬ n ≤ 400 := by omega
        rcases hW with ⟨w1, w2⟩ | ⟨w1, w2⟩ | w1
        · rcases hLL with ⟨l1, l2⟩ | ⟨l1, l2⟩ | l1
          · have hl : (items g 0 frm (k + 1)).length = (items g 0 frm k).length + 1 := by rw [hsn, if_pos ⟨w1, w2⟩]; simp
            have hz1 : (g k != 0) = true := by simpa using w2
            have HE := Lib.hid (HE2.out hl)
            clear hl hsn HE1 HE2
            have hgk := hgg l1 l2
            rw [← hgk] at HL1 HL2
            clear hgk
            clear hgg
            clear w2
            generalize (items g 0 frm k).length = cn at *
            generalize g k = gk at *
            go_wp2_with fail
            refine HG1.out.mono ?_
            rintro e X ⟨rfl, rfl⟩
            go_wp2_with fail
            refine HG2.out.mono ?_
            rintro e X ⟨rfl, rfl⟩
            go_wp2_with fail
            refine HL2.out.mono ?_
            rintro e X ⟨rfl, rfl⟩
            go_wp2_with fail
            go_roundw
            case rel => exact ⟨k + 1, by omega, by go_num, HE⟩
            case measure => simp [intOf]; omega
          · have hl : (items g 0 frm (k + 1)).length = (items g 0 frm k).length + 1 := by rw [hsn, if_pos ⟨w1, w2⟩]; simp
            have hz1 : (g k != 0) = true := by simpa using w2
            have HE := Lib.hid (HE2.out hl)
            clear hl hsn HE1 HE2
            clear hgg
            clear w2
            generalize (items g 0 frm k).length = cn at *
            generalize g k = gk at *
            go_wp2_with fail
            refine HG1.out.mono ?_
            rintro e X ⟨rfl, rfl⟩
            go_wp2_with fail
            go_roundw
            case rel => exact ⟨k + 1, by omega, by go_num, HE⟩
            case measure => simp [intOf]; omega
          · have hl : (items g 0 frm (k + 1)).length = (items g 0 frm k).length + 1 := by rw [hsn, if_pos ⟨w1, w2⟩]; simp
            have hz1 : (g k != 0) = true := by simpa using w2
            have HE := Lib.hid (HE2.out hl)
            clear hl hsn HE1 HE2
            clear hgg
            clear w2
            generalize (items g 0 frm k).length = cn at *
            generalize g k = gk at *
            go_wp2_with fail
            refine HG1.out.mono ?_
            rintro e X ⟨rfl, rfl⟩
            go_wp2_with fail
            go_roundw
            case rel => exact ⟨k + 1, by omega, by go_num, HE⟩
            case measure => simp [intOf]; omega
        · rcases hLL with ⟨l1, l2⟩ | ⟨l1, l2⟩ | l1
          · have hl : (items g 0 frm (k + 1)).length = (items g 0 frm k).length := by rw [hsn, if_neg (fun h => h.2 w2)]; simp
            have HE := Lib.hid (HE1.out hl)
            clear hl hsn HE1 HE2
            have hgk := hgg l1 l2
            rw [← hgk] at HL1 HL2
            clear hgk
            clear hgg
            rw [w2] at HG1 HG2 HL1 HL2
            clear w2
            generalize (items g 0 frm k).length = cn at *
            generalize g k = gk at *
            go_wp2_with fail
            refine HG1.out.mono ?_
            rintro e X ⟨rfl, rfl⟩
            go_wp2_with fail
            refine HG1.out.mono ?_
            rintro e X ⟨rfl, rfl⟩
            go_wp2_with fail
            refine HL1.out.mono ?_
            rintro e X ⟨rfl, rfl⟩
            go_wp2_with fail
            go_roundw
            case rel => exact ⟨k + 1, by omega, by go_num, HE⟩
            case measure => simp [intOf]; omega
          · have hl : (items g 0 frm (k + 1)).length = (items g 0 frm k).length := by rw [hsn, if_neg (fun h => h.2 w2)]; simp
            have HE := Lib.hid (HE1.out hl)
            clear hl hsn HE1 HE2
            clear hgg
            rw [w2] at HG1 HG2
            clear w2
            generalize (items g 0 frm k).length = cn at *
            generalize g k = gk at *
            go_wp2_with fail
            refine HG1.out.mono ?_
            rintro e X ⟨rfl, rfl⟩
            go_wp2_with fail
            go_roundw
            case rel => exact ⟨k + 1, by omega, by go_num, HE⟩
            case measure => simp [intOf]; omega
          · have hl : (items g 0 frm (k + 1)).length = (items g 0 frm k).length := by rw [hsn, if_neg (fun h => h.2 w2)]; simp
            have HE := Lib.hid (HE1.out hl)
            clear hl hsn HE1 HE2
            clear hgg
            rw [w2] at HG1 HG2
            clear w2
            generalize (items g 0 frm k).length = cn at *
            generalize g k = gk at *
            go_wp2_with fail
            refine HG1.out.mono ?_
            rintro e X ⟨rfl, rfl⟩
            go_wp2_with fail
            go_roundw
            case rel => exact ⟨k + 1, by omega, by go_num, HE⟩
            case measure => simp [intOf]; omega
        · rcases hLL with ⟨l1, l2⟩ | ⟨l1, l2⟩ | l1
          · have hl : (items g 0 frm (k + 1)).length = (items g 0 frm k).length := by rw [hsn, if_neg (fun h => w1 h.1)]; simp
            have HE := Lib.hid (HE1.out hl)
            clear hl hsn HE1 HE2
            have hgk := hgg l1 l2
            rw [← hgk] at HL1 HL2
            clear hgk
            clear hgg
            generalize (items g 0 frm k).length = cn at *
            generalize g k = gk at *
            go_wp2_with fail
            refine HG1.out.mono ?_
            rintro e X ⟨rfl, rfl⟩
            go_wp2_with fail
            refine HL1.out.mono ?_
            rintro e X ⟨rfl, rfl⟩
            go_wp2_with fail
            go_roundw
            case rel => exact ⟨k + 1, by omega, by go_num, HE⟩
            case measure => simp [intOf]; omega
          · have hl : (items g 0 frm (k + 1)).length = (items g 0 frm k).length := by rw [hsn, if_neg (fun h => w1 h.1)]; simp
            have HE := Lib.hid (HE1.out hl)
            clear hl hsn HE1 HE2
            clear hgg
            generalize (items g 0 frm k).length = cn at *
            generalize g k = gk at *
            go_wp2_with fail
            go_roundw
            case rel => exact ⟨k + 1, by omega, by go_num, HE⟩
            case measure => simp [intOf]; omega
          · have hl : (items g 0 frm (k + 1)).length = (items g 0 frm k).length := by rw [hsn, if_neg (fun h => w1 h.1)]; simp
            have HE := Lib.hid (HE1.out hl)
            clear hl hsn HE1 HE2
            clear hgg
            generalize (items g 0 frm k).length = cn at *
            generalize g k = gk at *
            go_wp2_with fail
            go_roundw
            case rel => exact ⟨k + 1, by omega, by go_num, HE⟩
            case measure => simp [intOf]; omega
      · obtain rfl : 512 = k := by omega
        -- GENERATED
        obtain ⟨W5, rfl⟩ : ∃ W5 : World, W5 = wr := ⟨_, rfl⟩
        have hgw5 : gw < W5.heap.size := HB.out.2.lt
        generalize hxs : items g 0 frm 512 = xs at *
        have HXS := Lib.hid hxs
        obtain ⟨nx, hnx⟩ : ∃ nx, xs.length = nx := ⟨_, rfl⟩
        rw [hnx] at HB hik
        have HNX := Lib.hid hnx
        have HX : Hid (∀ X, Below W5.heap.size W5 X → LtM w frm r q g X ∧ Boxed X gw 3 (.int .i64 nx) ∧ TreeI X r g lb4) := fun X hX => by
          have h5 : Below gw W5 X := hX.mono (Nat.le_of_lt hgw5)
          have h4 : Below gw W4 X := HB.out.1.trans h5
          exact ⟨HMA.out X h4, (hX.block gw hgw5).trans HB.out.2, HT4.out.below (by rw [HGW.out]; exact h4)⟩
        have hlb4 : ∀ b, lb4 b ≠ 0 → b < gw := fun b hb => by have := HT4.out.dom b hb; rw [HGW.out] at this; exact this
        have HLB4 := Lib.hid hlb4
        clear hxs hnx HB HGETA HLASTA HMA HT4 HGG HM4 hlt hk hlb4
        obtain ⟨Wa0, hWa0⟩ : ∃ X, W5.alloc (.cells #[.int .i64 0] 3) = X := ⟨_, rfl⟩
        obtain ⟨g0, hg0⟩ : ∃ g0, W5.heap.size = g0 := ⟨_, rfl⟩
        have hba : Below W5.heap.size W5 Wa0 := by rw [← hWa0]; exact (Below.refl _ _).alloc (Nat.le_refl _) _
        have hb14 : Boxed Wa0 g0 3 (.int .i64 0) := by rw [← hWa0, ← hg0]; exact Boxed.new _ _ _
        have hgl : W5.heap.size ≤ g0 := by omega
        have HWA := Lib.hid hWa0
        have HGA := Lib.hid hg0
        clear hWa0 hg0
        go_wp2_with fail
        rw [HWA.out, HGA.out]
        clear HWA HGA
        refine wp_loop_rounds 3 ?_
        rw [rounds_succ]
        have HBA := Lib.hid hba
        have H14 := Lib.hid hb14
        have c14 := hb14.cell
        clear hba hb14
        obtain ⟨Wr0, hWr⟩ : ∃ X, (Wa0.alloc (.cells #[.int .i64 0] 3)).alloc (.cells #[.int .i64 (-1)] 3) = X := ⟨_, rfl⟩
        obtain ⟨gn0, hgn⟩ : ∃ gn, Wa0.heap.size = gn := ⟨_, rfl⟩
        have hbr : Below Wa0.heap.size Wa0 Wr0 := by rw [← hWr]; exact ((Below.refl _ _).alloc (Nat.le_refl _) _).alloc (by simp) _
        have hbn : Boxed Wr0 gn0 3 (.int .i64 0) := by rw [← hWr, ← hgn]; exact (Boxed.new _ _ _).alloc _
        have hbat : Boxed Wr0 (gn0 + 1) 3 (.int .i64 (-1)) := by
          have := Boxed.new (Wa0.alloc (.cells #[.int .i64 0] 3)) 3 (.int .i64 (-1))
          rw [World.size_alloc, hgn] at this
          rw [← hWr]; exact this
        have hrz : gn0 + 2 ≤ Wr0.heap.size := by rw [← hWr, ← hgn]; simp
        have h14l : g0 < gn0 := by rw [← hgn]; exact H14.out.lt
        have hrb : Boxed Wr0 g0 3 (.int .i64 0) := boxed_chg H14.out (Chg.of_below (fun _ => False) hbr) (fun h => h)
        have hBr : Below W5.heap.size W5 Wr0 := HBA.out.trans (hbr.mono HBA.out.size)
        obtain ⟨hm, _, _⟩ := HX.out Wa0 HBA.out
        have c9 := hm.b9.cell
        have c9r := (HX.out Wr0 hBr).1.b9.cell
        rw [← hWr] at c9r
        have HWR := Lib.hid hWr
        have HGN := Lib.hid hgn
        clear hWr hgn hm hbr
        go_wp2_with fail
        rw [HWR.out, HGN.out]
        clear HWR HGN c14 c9 c9r HBA H14
        obtain ⟨hm, hgwb, htr⟩ := HX.out Wr0 hBr
        obtain ⟨cc, hgv⟩ := from_gives Wr0 r g lb4 htr frm hf1 (q + 1 + 1) (q + 1) hm.bo.cell hm.bt.cell
        rw [HXS.out] at hgv
        clear hm hgwb htr
        refine (wpIn_wide (n := 6)).1 ?_
        refine range_law_as #[17, 18] rfl (by omega) (gf := 51) (lb := #[.pointer (some ⟨q + 1 + 1, 0, none⟩), .pointer (some ⟨q + 1, 0, none⟩)]) rfl trivial (enters_of Try.func51 (by kernel_rfl) rfl) (hgv _) (fun _ => rfl)
          (fun pre X => Chg (fun b => b = gn0 ∨ b = gn0 + 1) Wr0 X ∧ Boxed X gn0 3 (.int .i64 pre.length) ∧ Boxed X (gn0 + 1) 3 (.int .i64 (atI pre))) (fun _ _ _ => False) (fun pre A B h hs => ⟨h.1.sim hs (Nat.le_refl _), boxed_sim h.2.1 hs, boxed_sim h.2.2 hs⟩) (fun _ _ _ _ h _ => h) ⟨Chg.refl _ _, hbn, hbat⟩ ?as0O ?bo0O ?do0O ?st0O
        case as0O =>
          intro lp x W K hK
          have HKK := Lib.hid hK
          clear hK
          simp only [encI, asg_two, List.setIfInBounds_toArray, List.set_cons_zero, List.set_cons_succ] at HKK
          simp only [encI]
          gi_wp2
          exact HKK.out
        case st0O =>
          rintro D j pre W _ _ h _
          exact h.elim
        case bo0O =>
          intro lp pre x W hI hpx hwz hl1 hl2 hrec
          simp only [encI, asg_two, List.setIfInBounds_toArray, List.set_cons_zero, List.set_cons_succ]
          have hpx' := hpx
          rw [← HXS.out] at hpx'
          obtain ⟨hat1, hat2⟩ := atI_lt hpx'
          have hats := atI_snoc pre x
          obtain ⟨hx1, hx2, hx3, hx4⟩ := items_mem (hpx'.subset (by simp : x ∈ pre ++ [x]))
          have hlen : pre.length + 1 ≤ 512 := by
            have h1 := hpx'.length_le
            have h2 := items_len g 0 frm 512
            simp at h1
            omega
          obtain ⟨hcw, hbn', hbt'⟩ := hI
          have hbw : Below W5.heap.size W5 W := hBr.trans (hcw.below _ hBr.size (fun b h1 h2 => by omega))
          obtain ⟨hm, hgwb, htr⟩ := HX.out W hbw
          have h14 : Boxed W g0 3 (.int .i64 0) := boxed_chg hrb hcw (fun h => by omega)
          have c5 := hm.b5.cell
          have c7 := hm.b7.cell
          have c9 := hm.b9.cell
          have cw := hgwb.cell
          have c14 := h14.cell
          have cn := hbn'.cell
          have fn := hbn'.frozen
          have ca := hbt'.cell
          have fa := hbt'.frozen
          have HG := Lib.hid (get_any W r g lb4 htr x.1 hx1)
          rw [hx3] at HG
          have hx4b : (x.2 == 0) = false := by simpa using hx4
          obtain ⟨W2, hW2⟩ : ∃ X, W.setCell ⟨gn0 + 1, 0, none⟩ (.int .i64 (x.1 : Nat)) = X := ⟨_, rfl⟩
          have hc2 : Chg (fun b => b = gn0 ∨ b = gn0 + 1) W W2 := by rw [← hW2]; exact (Chg.refl _ W).setCell (p := ⟨gn0 + 1, 0, none⟩) (fun _ => .inr rfl) _
          have hn2 : Boxed W2 gn0 3 (.int .i64 pre.length) := by rw [← hW2]; exact hbn'.other (by omega) _
          have ha2 : Boxed W2 (gn0 + 1) 3 (.int .i64 (x.1 : Nat)) := by rw [← hW2]; exact hbt'.set _
          have h142 : Boxed W2 g0 3 (.int .i64 0) := boxed_chg h14 hc2 (fun h => by omega)
          obtain ⟨rl, hrl0⟩ := hrec
          have hrl2 : W2.heap[lp]? = some (.loop rl) := (hc2.block lp (heap_lt hrl0) (fun h => by rcases h with h | h; (rw [h] at hrl0; have h1 : W.heap[gn0]? = _ := hbn'; rw [h1] at hrl0; cases hrl0); (rw [h] at hrl0; have h1 : W.heap[gn0 + 1]? = _ := hbt'; rw [h1] at hrl0; cases hrl0))).trans hrl0
          have HC2 := Lib.hid hc2
          have HCW := Lib.hid hcw
          have HN2 := Lib.hid hn2
          have HA2 := Lib.hid ha2
          have HRL := Lib.hid hrl2
          have HATS := Lib.hid hats
          have HW2 := Lib.hid hW2
          have hb2 : Below W5.heap.size W5 W2 := hbw.trans (hc2.below _ hbw.size (fun b h1 h2 => by omega))
          have HBB := Lib.hid hb2
          have n2c := hn2.cell
          have n2f := hn2.frozen
          have r2c := h142.cell
          obtain ⟨hm2, hgwb2, _⟩ := HX.out W2 hb2
          have d9 := hm2.b9.cell
          have dw := hgwb2.cell
          have hq9 : q + 1 + 1 + 1 < W2.heap.size := hm2.b9.lt
          clear hcw hbn' hbt' hbw hm hgwb htr h14 hpx' hx3 hx4 hc2 hn2 ha2 h142 hrl0 hrl2 hats hW2 hb2 hm2 hgwb2 hpx
          obtain ⟨y, z⟩ := x
          simp only at hat2 hx1 hx2 hx4b HG HW2 HA2
          generalize atI pre = at_ at *
          generalize hpl : pre.length = pl at *
          have HPL := Lib.hid hpl
          clear hpl
          by_cases hpr : pl = 0
          · have e0 : ((pl : Int) == 0) = true := by rw [hpr]; rfl
            clear hpr
            obtain ⟨Wi, hWi⟩ : ∃ X, W2.alloc (.cells #[.int .i64 0] 3) = X := ⟨_, rfl⟩
            obtain ⟨gi_, hgi⟩ : ∃ gi_, W.heap.size = gi_ := ⟨_, rfl⟩
            have hsz : W2.heap.size = gi_ := by rw [← HW2.out, ← hgi]; simp [World.setCell]
            have hbi : Below W2.heap.size W2 Wi := by rw [← hWi]; exact (Below.refl _ _).alloc (Nat.le_refl _) _
            have hii : Boxed Wi gi_ 3 (.int .i64 0) := by rw [← hWi, ← hsz]; exact Boxed.new _ _ _
            have hBi : Below W5.heap.size W5 Wi := HBB.out.trans (hbi.mono HBB.out.size)
            obtain ⟨hmi, _, hti⟩ := HX.out Wi hBi
            have d9r := hmi.b9.cell
            rw [← hWi, ← HW2.out] at d9r
            obtain ⟨ci, hgvi⟩ := from_gives Wi r g lb4 hti frm hf1 (q + 1 + 1) (q + 1) hmi.bo.cell hmi.bt.cell
            rw [HXS.out] at hgvi
            have hrli := (hbi.block lp (heap_lt HRL.out)).trans HRL.out
            have hgil : gn0 + 2 ≤ gi_ := by rw [← hsz]; exact Nat.le_trans hrz (Nat.le_trans HCW.out.size HC2.out.size)
            have HWI := Lib.hid hWi
            have HGI := Lib.hid hgi
            have HSZ := Lib.hid hsz
            have HBI := Lib.hid hBi
            have Hbi := Lib.hid hbi
            have hil : gi_ < Wi.heap.size := hii.lt
            clear hWi hgi hsz hBi hmi hti hbi
            gi_wp2_with (refine ⟨trivial, ?_⟩; gi_at_call 23; refine (CallsIn.inRound lp (callsIn_wide.2 HG.out)).mono ?_; rintro e w1 ⟨rfl, rfl⟩)
            rw [HW2.out, HWI.out, HGI.out]
            clear d9r d9 dw c5 c7 c9 cw c14 cn fn ca fa n2c n2f r2c hq9 HG
            refine range_law_in_as #[20, 21] rfl hrli (by omega) (gf := 51) (lb := #[.pointer (some ⟨q + 1 + 1, 0, none⟩), .pointer (some ⟨q + 1, 0, none⟩)]) rfl trivial (enters_of Try.func51 (by kernel_rfl) rfl) (Gives.inRound lp (hgvi _)) (fun _ => rfl)
              (fun pre2 X => Chg (fun b => b = gi_) Wi X ∧ Boxed X gi_ 3 (.int .i64 pre2.length)) (fun _ _ _ => False) (fun pre A B h hs => ⟨h.1.sim hs (Nat.le_refl _), boxed_sim h.2 hs⟩) (fun _ _ _ _ h _ => h) ⟨Chg.refl _ _, hii⟩ ?as0I ?bo0I ?do0I ?st0I
            case as0I =>
              intro lp x W K hK
              have HKK := Lib.hid hK
              clear hK
              simp only [encI, asg_two, List.setIfInBounds_toArray, List.set_cons_zero, List.set_cons_succ] at HKK
              simp only [encI]
              gi_wp2
              exact HKK.out
            case st0I =>
              rintro j pre W _ h
              exact h.elim
            case bo0I =>
              intro lp2 pre2 x2 V hI hpx2 hwz2 hl12 hl22 _
              simp only [encI, asg_two, List.setIfInBounds_toArray, List.set_cons_zero, List.set_cons_succ]
              rw [← HXS.out] at hpx2
              obtain ⟨hx1', hx2', hx3', hx4'⟩ := items_mem (hpx2.subset (by simp : x2 ∈ pre2 ++ [x2]))
              have hlen2 : pre2.length + 1 ≤ 512 := by
                have h1 := hpx2.length_le
                have h2 := items_len g 0 frm 512
                simp at h1
                omega
              obtain ⟨hcv, hbv⟩ := hI
              have hbV : Below W5.heap.size W5 V := HBI.out.trans (hcv.below _ HBI.out.size (fun b h1 h2 => by omega))
              obtain ⟨hmv, _, htv⟩ := HX.out V hbV
              have c5 := hmv.b5.cell
              have c7 := hmv.b7.cell
              have ci2 := hbv.cell
              have fi2 := hbv.frozen
              have HG2 := Lib.hid (get_any V r g lb4 htv x2.1 hx1')
              rw [hx3'] at HG2
              have HE2 : Hid (Held Wi.heap.size (Wi.heap.size + 1) ci V (V.setCell ⟨gi_, 0, none⟩ (.int .i64 ((pre2.length : Int) + 1))) ∧ Chg (fun b => b = gi_) Wi (V.setCell ⟨gi_, 0, none⟩ (.int .i64 ((pre2.length : Int) + 1))) ∧ Boxed (V.setCell ⟨gi_, 0, none⟩ (.int .i64 ((pre2.length : Int) + 1))) gi_ 3 (.int .i64 ((pre2 ++ [x2]).length : Nat))) := by
                refine ⟨Held.of_chg (D := fun b => b = gi_) ((Chg.refl (fun b => b = gi_) V).setCell (p := ⟨gi_, 0, none⟩) (fun _ => rfl) _) (fun b h1 h2 => by omega) (fun b h1 => by omega) hwz2, hcv.setCell (p := ⟨gi_, 0, none⟩) (fun _ => rfl) _, ?_⟩
                have := hbv.set (.int .i64 ((pre2.length : Int) + 1))
                rw [List.length_append]
                exact this
              clear hcv hbv hbV hmv htv hx3' hx4' hpx2
              obtain ⟨y2, z2⟩ := x2
              simp only at hx1' hx2' HG2
              generalize hpl2 : pre2.length = pl2 at *
              clear hpl2
              gi_wp2_with (refine ⟨trivial, ?_⟩; gi_at_call 23; refine (CallsIn.inRound lp2 (CallsIn.inRound lp (callsIn_wide.2 HG2.out))).mono ?_; rintro e w1 ⟨rfl, rfl⟩)
              exact HE2.out
            case do0I =>
              rintro V hI
              obtain ⟨hcv, hbv⟩ := hI
              rw [HNX.out] at hbv
              have hbV : Below W5.heap.size W5 V := HBI.out.trans (hcv.below _ HBI.out.size (fun b h1 h2 => by omega))
              obtain ⟨hmv, hgv2, _⟩ := HX.out V hbV
              have cw := hgv2.cell
              have ci2 := hbv.cell
              have hnv : Boxed V gn0 3 (.int .i64 pl) := boxed_chg (boxed_chg HN2.out (Chg.of_below (fun _ => False) Hbi.out) (fun h => h)) hcv (fun h => by omega)
              have hav : Boxed V (gn0 + 1) 3 (.int .i64 (y : Nat)) := boxed_chg (boxed_chg HA2.out (Chg.of_below (fun _ => False) Hbi.out) (fun h => h)) hcv (fun h => by omega)
              have cn := hnv.cell
              have fn := hnv.frozen
              have hcWV : Chg (fun b => b = gn0 ∨ b = gn0 + 1) W (V.setCell ⟨gn0, 0, none⟩ (.int .i64 ((pl : Int) + 1))) := by
                have h1 : Chg (fun b => b = gn0 ∨ b = gn0 + 1) W Wi := HC2.out.trans (Chg.of_below (fun _ => False) Hbi.out) (fun _ _ h => h.elim)
                have h2 : Chg (fun b => b = gn0 ∨ b = gn0 + 1) W V := h1.trans hcv (fun x hx h => by rw [HGI.out] at hx; omega)
                exact h2.setCell (p := ⟨gn0, 0, none⟩) (fun _ => .inl rfl) _
              have HE : Hid (Held Wr0.heap.size (Wr0.heap.size + 2) cc W (V.setCell ⟨gn0, 0, none⟩ (.int .i64 ((pl : Int) + 1))) ∧ Chg (fun b => b = gn0 ∨ b = gn0 + 1) Wr0 (V.setCell ⟨gn0, 0, none⟩ (.int .i64 ((pl : Int) + 1))) ∧ Boxed (V.setCell ⟨gn0, 0, none⟩ (.int .i64 ((pl : Int) + 1))) gn0 3 (.int .i64 ((pre ++ [(y, z)]).length : Nat)) ∧ Boxed (V.setCell ⟨gn0, 0, none⟩ (.int .i64 ((pl : Int) + 1))) (gn0 + 1) 3 (.int .i64 (atI (pre ++ [(y, z)])))) := by
                refine ⟨Held.of_chg hcWV (fun b h1 h2 => by omega) (fun b h1 => by omega) hwz, HCW.out.trans hcWV (fun _ _ h => h), ?_, ?_⟩
                · have := hnv.set (.int .i64 ((pl : Int) + 1))
                  rw [List.length_append, HPL.out]
                  exact this
                · rw [HATS.out]; exact hav.other (by omega) _
              clear hcv hbv hbV hmv hgv2 hnv hav hcWV
              gi_wp2_with fail
              exact HE.out
          · have e0 : ((pl : Int) == 0) = false := by simp; omega
            clear hpr d9 dw hq9
            have hcWV : Chg (fun b => b = gn0 ∨ b = gn0 + 1) W (W2.setCell ⟨gn0, 0, none⟩ (.int .i64 ((pl : Int) + 1))) := HC2.out.setCell (p := ⟨gn0, 0, none⟩) (fun _ => .inl rfl) _
            have HE : Hid (Held Wr0.heap.size (Wr0.heap.size + 2) cc W (W2.setCell ⟨gn0, 0, none⟩ (.int .i64 ((pl : Int) + 1))) ∧ Chg (fun b => b = gn0 ∨ b = gn0 + 1) Wr0 (W2.setCell ⟨gn0, 0, none⟩ (.int .i64 ((pl : Int) + 1))) ∧ Boxed (W2.setCell ⟨gn0, 0, none⟩ (.int .i64 ((pl : Int) + 1))) gn0 3 (.int .i64 ((pre ++ [(y, z)]).length : Nat)) ∧ Boxed (W2.setCell ⟨gn0, 0, none⟩ (.int .i64 ((pl : Int) + 1))) (gn0 + 1) 3 (.int .i64 (atI (pre ++ [(y, z)])))) := by
              refine ⟨Held.of_chg hcWV (fun b h1 h2 => by omega) (fun b h1 => by omega) hwz, HCW.out.trans hcWV (fun _ _ h => h), ?_, ?_⟩
              · have := HN2.out.set (.int .i64 ((pl : Int) + 1))
                rw [List.length_append, HPL.out]
                exact this
              · rw [HATS.out]; exact HA2.out.other (by omega) _
            rw [← HW2.out] at HE
            clear hcWV
            gi_wp2_with (refine ⟨trivial, ?_⟩; gi_at_call 23; refine (CallsIn.inRound lp (callsIn_wide.2 HG.out)).mono ?_; rintro e w1 ⟨rfl, rfl⟩)
            exact HE.out
        case do0O =>
          rintro D1 W hD1 hI hK
          obtain ⟨hcw, hbn', _⟩ := hI
          rw [HNX.out] at hbn'
          have hbw : Below W5.heap.size W5 W := hBr.trans (hcw.below _ hBr.size (fun b h1 h2 => by omega))
          obtain ⟨hm, hgwb, _⟩ := HX.out W hbw
          have h14 : Boxed W g0 3 (.int .i64 0) := boxed_chg hrb hcw (fun h => by omega)
          have c14 := h14.cell
          have cn := hbn'.cell
          have cw := hgwb.cell
          obtain ⟨Wa1, hWa⟩ : ∃ X, W.alloc (.cells #[.int .i64 1] 3) = X := ⟨_, rfl⟩
          obtain ⟨g1, hgx⟩ : ∃ gx, W.heap.size = gx := ⟨_, rfl⟩
          have hbz : Below W.heap.size W Wa1 := by rw [← hWa]; exact (Below.refl _ _).alloc (Nat.le_refl _) _
          have hba : Below W5.heap.size W5 Wa1 := hbw.trans (hbz.mono hbw.size)
          have hb14 : Boxed Wa1 g1 3 (.int .i64 1) := by rw [← hWa, ← hgx]; exact Boxed.new _ _ _
          have HDD1 := Lib.hid ((hbz.block D1 (heap_lt hK)).trans hK)
          have hDzD1 : D1 < Wa1.heap.size := heap_lt HDD1.out
          have hDyD1 : W5.heap.size ≤ D1 := Nat.le_trans hBr.size hD1
          have hWz : W.heap.size ≤ Wa1.heap.size := hbz.size
          have hgl1 : W5.heap.size ≤ g1 := by rw [← hgx]; exact hbw.size
          have HWA := Lib.hid hWa
          have HGX := Lib.hid hgx
          clear hWa hgx hbz hcw hbn' hbw hm hgwb h14 hK hgv hbn hbat hrb hBr
          go_wp2_with fail
          rw [HWA.out, HGX.out]
          clear HWA HGX c14 cn cw
          rw [rounds_succ]
          have HBA := Lib.hid hba
          have H14 := Lib.hid hb14
          have c14 := hb14.cell
          clear hba hb14
          obtain ⟨Wr1, hWr⟩ : ∃ X, (Wa1.alloc (.cells #[.int .i64 0] 3)).alloc (.cells #[.int .i64 (-1)] 3) = X := ⟨_, rfl⟩
          obtain ⟨gn1, hgn⟩ : ∃ gn, Wa1.heap.size = gn := ⟨_, rfl⟩
          have hbr : Below Wa1.heap.size Wa1 Wr1 := by rw [← hWr]; exact ((Below.refl _ _).alloc (Nat.le_refl _) _).alloc (by simp) _
          have hbn : Boxed Wr1 gn1 3 (.int .i64 0) := by rw [← hWr, ← hgn]; exact (Boxed.new _ _ _).alloc _
          have hbat : Boxed Wr1 (gn1 + 1) 3 (.int .i64 (-1)) := by
            have := Boxed.new (Wa1.alloc (.cells #[.int .i64 0] 3)) 3 (.int .i64 (-1))
            rw [World.size_alloc, hgn] at this
            rw [← hWr]; exact this
          have hrz : gn1 + 2 ≤ Wr1.heap.size := by rw [← hWr, ← hgn]; simp
          have h14l : g1 < gn1 := by rw [← hgn]; exact H14.out.lt
          have hrb : Boxed Wr1 g1 3 (.int .i64 1) := boxed_chg H14.out (Chg.of_below (fun _ => False) hbr) (fun h => h)
          have hBr : Below W5.heap.size W5 Wr1 := HBA.out.trans (hbr.mono HBA.out.size)
          obtain ⟨hm, _, _⟩ := HX.out Wa1 HBA.out
          have c9 := hm.b9.cell
          have c9r := (HX.out Wr1 hBr).1.b9.cell
          rw [← hWr] at c9r
          have hgnD1 : D1 < gn1 := by rw [← hgn]; exact heap_lt HDD1.out
          have HWR := Lib.hid hWr
          have HGN := Lib.hid hgn
          have HKD1 := Lib.hid ((hbr.block D1 (heap_lt HDD1.out)).trans HDD1.out)
          clear hWr hgn hm hbr HDD1
          go_wp2_with fail
          rw [HWR.out, HGN.out]
          clear HWR HGN c14 c9 c9r HBA H14
          obtain ⟨hm, hgwb, htr⟩ := HX.out Wr1 hBr
          obtain ⟨cc, hgv⟩ := from_gives Wr1 r g lb4 htr frm hf1 (q + 1 + 1) (q + 1) hm.bo.cell hm.bt.cell
          rw [HXS.out] at hgv
          clear hm hgwb htr
          refine (wpIn_wide (n := 6)).1 ?_
          refine range_law_as #[17, 18] rfl (by omega) (gf := 51) (lb := #[.pointer (some ⟨q + 1 + 1, 0, none⟩), .pointer (some ⟨q + 1, 0, none⟩)]) rfl trivial (enters_of Try.func51 (by kernel_rfl) rfl) (hgv _) (fun _ => rfl)
            (fun pre X => Chg (fun b => b = gn1 ∨ b = gn1 + 1) Wr1 X ∧ Boxed X gn1 3 (.int .i64 pre.length) ∧ Boxed X (gn1 + 1) 3 (.int .i64 (atI pre))) (fun _ _ _ => False) (fun pre A B h hs => ⟨h.1.sim hs (Nat.le_refl _), boxed_sim h.2.1 hs, boxed_sim h.2.2 hs⟩) (fun _ _ _ _ h _ => h) ⟨Chg.refl _ _, hbn, hbat⟩ ?as1O ?bo1O ?do1O ?st1O
          case as1O =>
            intro lp x W K hK
            have HKK := Lib.hid hK
            clear hK
            simp only [encI, asg_two, List.setIfInBounds_toArray, List.set_cons_zero, List.set_cons_succ] at HKK
            simp only [encI]
            gi_wp2
            exact HKK.out
          case st1O =>
            rintro D j pre W _ _ h _
            exact h.elim
          case bo1O =>
            intro lp pre x W hI hpx hwz hl1 hl2 hrec
            simp only [encI, asg_two, List.setIfInBounds_toArray, List.set_cons_zero, List.set_cons_succ]
            have hpx' := hpx
            rw [← HXS.out] at hpx'
            obtain ⟨hat1, hat2⟩ := atI_lt hpx'
            have hats := atI_snoc pre x
            obtain ⟨hx1, hx2, hx3, hx4⟩ := items_mem (hpx'.subset (by simp : x ∈ pre ++ [x]))
            have hlen : pre.length + 1 ≤ 512 := by
              have h1 := hpx'.length_le
              have h2 := items_len g 0 frm 512
              simp at h1
              omega
            obtain ⟨hcw, hbn', hbt'⟩ := hI
            have hbw : Below W5.heap.size W5 W := hBr.trans (hcw.below _ hBr.size (fun b h1 h2 => by omega))
            obtain ⟨hm, hgwb, htr⟩ := HX.out W hbw
            have h14 : Boxed W g1 3 (.int .i64 1) := boxed_chg hrb hcw (fun h => by omega)
            have c5 := hm.b5.cell
            have c7 := hm.b7.cell
            have c9 := hm.b9.cell
            have cw := hgwb.cell
            have c14 := h14.cell
            have cn := hbn'.cell
            have fn := hbn'.frozen
            have ca := hbt'.cell
            have fa := hbt'.frozen
            have HG := Lib.hid (get_any W r g lb4 htr x.1 hx1)
            rw [hx3] at HG
            have hx4b : (x.2 == 0) = false := by simpa using hx4
            obtain ⟨W2, hW2⟩ : ∃ X, W.setCell ⟨gn1 + 1, 0, none⟩ (.int .i64 (x.1 : Nat)) = X := ⟨_, rfl⟩
            have hc2 : Chg (fun b => b = gn1 ∨ b = gn1 + 1) W W2 := by rw [← hW2]; exact (Chg.refl _ W).setCell (p := ⟨gn1 + 1, 0, none⟩) (fun _ => .inr rfl) _
            have hn2 : Boxed W2 gn1 3 (.int .i64 pre.length) := by rw [← hW2]; exact hbn'.other (by omega) _
            have ha2 : Boxed W2 (gn1 + 1) 3 (.int .i64 (x.1 : Nat)) := by rw [← hW2]; exact hbt'.set _
            have h142 : Boxed W2 g1 3 (.int .i64 1) := boxed_chg h14 hc2 (fun h => by omega)
            obtain ⟨rl, hrl0⟩ := hrec
            have hrl2 : W2.heap[lp]? = some (.loop rl) := (hc2.block lp (heap_lt hrl0) (fun h => by rcases h with h | h; (rw [h] at hrl0; have h1 : W.heap[gn1]? = _ := hbn'; rw [h1] at hrl0; cases hrl0); (rw [h] at hrl0; have h1 : W.heap[gn1 + 1]? = _ := hbt'; rw [h1] at hrl0; cases hrl0))).trans hrl0
            have HC2 := Lib.hid hc2
            have HCW := Lib.hid hcw
            have HN2 := Lib.hid hn2
            have HA2 := Lib.hid ha2
            have HRL := Lib.hid hrl2
            have HATS := Lib.hid hats
            have HW2 := Lib.hid hW2
            have hb2 : Below W5.heap.size W5 W2 := hbw.trans (hc2.below _ hbw.size (fun b h1 h2 => by omega))
            have HBB := Lib.hid hb2
            have n2c := hn2.cell
            have n2f := hn2.frozen
            have r2c := h142.cell
            obtain ⟨hm2, hgwb2, _⟩ := HX.out W2 hb2
            have d9 := hm2.b9.cell
            have dw := hgwb2.cell
            have hq9 : q + 1 + 1 + 1 < W2.heap.size := hm2.b9.lt
            clear hcw hbn' hbt' hbw hm hgwb htr h14 hpx' hx3 hx4 hc2 hn2 ha2 h142 hrl0 hrl2 hats hW2 hb2 hm2 hgwb2 hpx
            obtain ⟨y, z⟩ := x
            simp only at hat2 hx1 hx2 hx4b HG HW2 HA2
            generalize atI pre = at_ at *
            generalize hpl : pre.length = pl at *
            have HPL := Lib.hid hpl
            clear hpl
            by_cases hpr : pl = 1
            · have e0 : ((pl : Int) == 1) = true := by rw [hpr]; rfl
              clear hpr
              obtain ⟨Wi, hWi⟩ : ∃ X, W2.alloc (.cells #[.int .i64 0] 3) = X := ⟨_, rfl⟩
              obtain ⟨gi_, hgi⟩ : ∃ gi_, W.heap.size = gi_ := ⟨_, rfl⟩
              have hsz : W2.heap.size = gi_ := by rw [← HW2.out, ← hgi]; simp [World.setCell]
              have hbi : Below W2.heap.size W2 Wi := by rw [← hWi]; exact (Below.refl _ _).alloc (Nat.le_refl _) _
              have hii : Boxed Wi gi_ 3 (.int .i64 0) := by rw [← hWi, ← hsz]; exact Boxed.new _ _ _
              have hBi : Below W5.heap.size W5 Wi := HBB.out.trans (hbi.mono HBB.out.size)
              obtain ⟨hmi, _, hti⟩ := HX.out Wi hBi
              have d9r := hmi.b9.cell
              rw [← hWi, ← HW2.out] at d9r
              obtain ⟨ci, hgvi⟩ := from_gives Wi r g lb4 hti frm hf1 (q + 1 + 1) (q + 1) hmi.bo.cell hmi.bt.cell
              rw [HXS.out] at hgvi
              have hrli := (hbi.block lp (heap_lt HRL.out)).trans HRL.out
              have hgil : gn1 + 2 ≤ gi_ := by rw [← hsz]; exact Nat.le_trans hrz (Nat.le_trans HCW.out.size HC2.out.size)
              have HWI := Lib.hid hWi
              have HGI := Lib.hid hgi
              have HSZ := Lib.hid hsz
              have HBI := Lib.hid hBi
              have Hbi := Lib.hid hbi
              have hil : gi_ < Wi.heap.size := hii.lt
              clear hWi hgi hsz hBi hmi hti hbi
              gi_wp2_with (refine ⟨trivial, ?_⟩; gi_at_call 23; refine (CallsIn.inRound lp (callsIn_wide.2 HG.out)).mono ?_; rintro e w1 ⟨rfl, rfl⟩)
              rw [HW2.out, HWI.out, HGI.out]
              clear d9r d9 dw c5 c7 c9 cw c14 cn fn ca fa n2c n2f r2c hq9 HG
              refine range_law_in_as #[20, 21] rfl hrli (by omega) (gf := 51) (lb := #[.pointer (some ⟨q + 1 + 1, 0, none⟩), .pointer (some ⟨q + 1, 0, none⟩)]) rfl trivial (enters_of Try.func51 (by kernel_rfl) rfl) (Gives.inRound lp (hgvi _)) (fun _ => rfl)
                (fun pre2 X => Chg (fun b => b = gi_) Wi X ∧ Boxed X gi_ 3 (.int .i64 pre2.length)) (fun _ _ _ => False) (fun pre A B h hs => ⟨h.1.sim hs (Nat.le_refl _), boxed_sim h.2 hs⟩) (fun _ _ _ _ h _ => h) ⟨Chg.refl _ _, hii⟩ ?as1I ?bo1I ?do1I ?st1I
              case as1I =>
                intro lp x W K hK
                have HKK := Lib.hid hK
                clear hK
                simp only [encI, asg_two, List.setIfInBounds_toArray, List.set_cons_zero, List.set_cons_succ] at HKK
                simp only [encI]
                gi_wp2
                exact HKK.out
              case st1I =>
                rintro j pre W _ h
                exact h.elim
              case bo1I =>
                intro lp2 pre2 x2 V hI hpx2 hwz2 hl12 hl22 _
                simp only [encI, asg_two, List.setIfInBounds_toArray, List.set_cons_zero, List.set_cons_succ]
                rw [← HXS.out] at hpx2
                obtain ⟨hx1', hx2', hx3', hx4'⟩ := items_mem (hpx2.subset (by simp : x2 ∈ pre2 ++ [x2]))
                have hlen2 : pre2.length + 1 ≤ 512 := by
                  have h1 := hpx2.length_le
                  have h2 := items_len g 0 frm 512
                  simp at h1
                  omega
                obtain ⟨hcv, hbv⟩ := hI
                have hbV : Below W5.heap.size W5 V := HBI.out.trans (hcv.below _ HBI.out.size (fun b h1 h2 => by omega))
                obtain ⟨hmv, _, htv⟩ := HX.out V hbV
                have c5 := hmv.b5.cell
                have c7 := hmv.b7.cell
                have ci2 := hbv.cell
                have fi2 := hbv.frozen
                have HG2 := Lib.hid (get_any V r g lb4 htv x2.1 hx1')
                rw [hx3'] at HG2
                have HE2 : Hid (Held Wi.heap.size (Wi.heap.size + 1) ci V (V.setCell ⟨gi_, 0, none⟩ (.int .i64 ((pre2.length : Int) + 1))) ∧ Chg (fun b => b = gi_) Wi (V.setCell ⟨gi_, 0, none⟩ (.int .i64 ((pre2.length : Int) + 1))) ∧ Boxed (V.setCell ⟨gi_, 0, none⟩ (.int .i64 ((pre2.length : Int) + 1))) gi_ 3 (.int .i64 ((pre2 ++ [x2]).length : Nat))) := by
                  refine ⟨Held.of_chg (D := fun b => b = gi_) ((Chg.refl (fun b => b = gi_) V).setCell (p := ⟨gi_, 0, none⟩) (fun _ => rfl) _) (fun b h1 h2 => by omega) (fun b h1 => by omega) hwz2, hcv.setCell (p := ⟨gi_, 0, none⟩) (fun _ => rfl) _, ?_⟩
                  have := hbv.set (.int .i64 ((pre2.length : Int) + 1))
                  rw [List.length_append]
                  exact this
                clear hcv hbv hbV hmv htv hx3' hx4' hpx2
                obtain ⟨y2, z2⟩ := x2
                simp only at hx1' hx2' HG2
                generalize hpl2 : pre2.length = pl2 at *
                clear hpl2
                gi_wp2_with (refine ⟨trivial, ?_⟩; gi_at_call 23; refine (CallsIn.inRound lp2 (CallsIn.inRound lp (callsIn_wide.2 HG2.out))).mono ?_; rintro e w1 ⟨rfl, rfl⟩)
                exact HE2.out
              case do1I =>
                rintro V hI
                obtain ⟨hcv, hbv⟩ := hI
                rw [HNX.out] at hbv
                have hbV : Below W5.heap.size W5 V := HBI.out.trans (hcv.below _ HBI.out.size (fun b h1 h2 => by omega))
                obtain ⟨hmv, hgv2, _⟩ := HX.out V hbV
                have cw := hgv2.cell
                have ci2 := hbv.cell
                have hnv : Boxed V gn1 3 (.int .i64 pl) := boxed_chg (boxed_chg HN2.out (Chg.of_below (fun _ => False) Hbi.out) (fun h => h)) hcv (fun h => by omega)
                have hav : Boxed V (gn1 + 1) 3 (.int .i64 (y : Nat)) := boxed_chg (boxed_chg HA2.out (Chg.of_below (fun _ => False) Hbi.out) (fun h => h)) hcv (fun h => by omega)
                have cn := hnv.cell
                have fn := hnv.frozen
                have hcWV : Chg (fun b => b = gn1 ∨ b = gn1 + 1) W (V.setCell ⟨gn1, 0, none⟩ (.int .i64 ((pl : Int) + 1))) := by
                  have h1 : Chg (fun b => b = gn1 ∨ b = gn1 + 1) W Wi := HC2.out.trans (Chg.of_below (fun _ => False) Hbi.out) (fun _ _ h => h.elim)
                  have h2 : Chg (fun b => b = gn1 ∨ b = gn1 + 1) W V := h1.trans hcv (fun x hx h => by rw [HGI.out] at hx; omega)
                  exact h2.setCell (p := ⟨gn1, 0, none⟩) (fun _ => .inl rfl) _
                have HE : Hid (Held Wr1.heap.size (Wr1.heap.size + 2) cc W (V.setCell ⟨gn1, 0, none⟩ (.int .i64 ((pl : Int) + 1))) ∧ Chg (fun b => b = gn1 ∨ b = gn1 + 1) Wr1 (V.setCell ⟨gn1, 0, none⟩ (.int .i64 ((pl : Int) + 1))) ∧ Boxed (V.setCell ⟨gn1, 0, none⟩ (.int .i64 ((pl : Int) + 1))) gn1 3 (.int .i64 ((pre ++ [(y, z)]).length : Nat)) ∧ Boxed (V.setCell ⟨gn1, 0, none⟩ (.int .i64 ((pl : Int) + 1))) (gn1 + 1) 3 (.int .i64 (atI (pre ++ [(y, z)])))) := by
                  refine ⟨Held.of_chg hcWV (fun b h1 h2 => by omega) (fun b h1 => by omega) hwz, HCW.out.trans hcWV (fun _ _ h => h), ?_, ?_⟩
                  · have := hnv.set (.int .i64 ((pl : Int) + 1))
                    rw [List.length_append, HPL.out]
                    exact this
                  · rw [HATS.out]; exact hav.other (by omega) _
                clear hcv hbv hbV hmv hgv2 hnv hav hcWV
                gi_wp2_with fail
                exact HE.out
            · have e0 : ((pl : Int) == 1) = false := by simp; omega
              clear hpr d9 dw hq9
              have hcWV : Chg (fun b => b = gn1 ∨ b = gn1 + 1) W (W2.setCell ⟨gn1, 0, none⟩ (.int .i64 ((pl : Int) + 1))) := HC2.out.setCell (p := ⟨gn1, 0, none⟩) (fun _ => .inl rfl) _
              have HE : Hid (Held Wr1.heap.size (Wr1.heap.size + 2) cc W (W2.setCell ⟨gn1, 0, none⟩ (.int .i64 ((pl : Int) + 1))) ∧ Chg (fun b => b = gn1 ∨ b = gn1 + 1) Wr1 (W2.setCell ⟨gn1, 0, none⟩ (.int .i64 ((pl : Int) + 1))) ∧ Boxed (W2.setCell ⟨gn1, 0, none⟩ (.int .i64 ((pl : Int) + 1))) gn1 3 (.int .i64 ((pre ++ [(y, z)]).length : Nat)) ∧ Boxed (W2.setCell ⟨gn1, 0, none⟩ (.int .i64 ((pl : Int) + 1))) (gn1 + 1) 3 (.int .i64 (atI (pre ++ [(y, z)])))) := by
                refine ⟨Held.of_chg hcWV (fun b h1 h2 => by omega) (fun b h1 => by omega) hwz, HCW.out.trans hcWV (fun _ _ h => h), ?_, ?_⟩
                · have := HN2.out.set (.int .i64 ((pl : Int) + 1))
                  rw [List.length_append, HPL.out]
                  exact this
                · rw [HATS.out]; exact HA2.out.other (by omega) _
              rw [← HW2.out] at HE
              clear hcWV
              gi_wp2_with (refine ⟨trivial, ?_⟩; gi_at_call 23; refine (CallsIn.inRound lp (callsIn_wide.2 HG.out)).mono ?_; rintro e w1 ⟨rfl, rfl⟩)
              exact HE.out
          case do1O =>
            rintro D2 W hD2 hI hK
            obtain ⟨hcw, hbn', _⟩ := hI
            rw [HNX.out] at hbn'
            have hbw : Below W5.heap.size W5 W := hBr.trans (hcw.below _ hBr.size (fun b h1 h2 => by omega))
            obtain ⟨hm, hgwb, _⟩ := HX.out W hbw
            have h14 : Boxed W g1 3 (.int .i64 1) := boxed_chg hrb hcw (fun h => by omega)
            have c14 := h14.cell
            have cn := hbn'.cell
            have cw := hgwb.cell
            obtain ⟨Wa2, hWa⟩ : ∃ X, W.alloc (.cells #[.int .i64 2] 3) = X := ⟨_, rfl⟩
            obtain ⟨g2, hgx⟩ : ∃ gx, W.heap.size = gx := ⟨_, rfl⟩
            have hbz : Below W.heap.size W Wa2 := by rw [← hWa]; exact (Below.refl _ _).alloc (Nat.le_refl _) _
            have hba : Below W5.heap.size W5 Wa2 := hbw.trans (hbz.mono hbw.size)
            have hb14 : Boxed Wa2 g2 3 (.int .i64 2) := by rw [← hWa, ← hgx]; exact Boxed.new _ _ _
            have HDD1 := Lib.hid ((hbz.block D1 (heap_lt (hcw.heap HKD1.out (fun h => by omega)))).trans (hcw.heap HKD1.out (fun h => by omega)))
            have HDD2 := Lib.hid ((hbz.block D2 (heap_lt hK)).trans hK)
            have hDzD2 : D2 < Wa2.heap.size := heap_lt HDD2.out
            have hDyD2 : W5.heap.size ≤ D2 := Nat.le_trans hBr.size hD2
            have hWz : W.heap.size ≤ Wa2.heap.size := hbz.size
            have hgl2 : W5.heap.size ≤ g2 := by rw [← hgx]; exact hbw.size
            have hDwD1 : D1 < Wa2.heap.size := heap_lt HDD1.out
            have HWA := Lib.hid hWa
            have HGX := Lib.hid hgx
            clear hWa hgx hbz hcw hbn' hbw hm hgwb h14 hK hgv hbn hbat hrb hBr HKD1
            go_wp2_with fail
            rw [HWA.out, HGX.out]
            clear HWA HGX c14 cn cw
            rw [rounds_succ]
            have c14 := hb14.cell
            have HBA := Lib.hid hba
            obtain ⟨hm, _, htr⟩ := HX.out Wa2 hba
            have c7 := hm.b7.cell
            have HS7 := Lib.hid (set_int Wa2 r g lb4 htr 511 (by omega) (by omega) 7)
            have HM := Lib.hid hm
            clear hm htr hba hb14
            go_wp2_with fail
            refine HS7.out.mono ?_
            rintro e W7 ⟨rfl, lb7, ht7, hx7, hc7⟩
            rw [show (511 : Int).toNat = 511 from rfl] at ht7
            have hM7 : LtM w frm r q (upd g 511 7) W7 := HM.out.chg hc7 hqq ht7 (fun b hb => (hx7.1 b hb).elim (HHL4.out b) (fun e => by have := HBA.out.size; omega)) (fun b hb => HHL4.out b hb)
            have HK1 := Lib.hid (hc7.heap HDD1.out (fun h => by have := HLB4.out _ h; omega))
            have HK2 := Lib.hid (hc7.heap HDD2.out (fun h => by have := HLB4.out _ h; omega))
            have hz7 : Wa2.heap.size ≤ W7.heap.size := hc7.size
            obtain ⟨W8, hW8⟩ : ∃ X, W7.alloc (.cells #[.int .i64 0] 3) = X := ⟨_, rfl⟩
            obtain ⟨g8, hg8⟩ : ∃ g8, W7.heap.size = g8 := ⟨_, rfl⟩
            have hb8 : Below W7.heap.size W7 W8 := by rw [← hW8]; exact (Below.refl _ _).alloc (Nat.le_refl _) _
            have hn8 : Boxed W8 g8 3 (.int .i64 0) := by rw [← hW8, ← hg8]; exact Boxed.new _ _ _
            have hM8 := hM7.below hb8
            have ht8 := ht7.below hb8
            replace HK1 := Lib.hid ((hb8.block D1 (heap_lt HK1.out)).trans HK1.out)
            replace HK2 := Lib.hid ((hb8.block D2 (heap_lt HK2.out)).trans HK2.out)
            have c9r := hM8.b9.cell
            rw [← hW8] at c9r
            obtain ⟨cc, hgv⟩ := from_gives W8 r _ lb7 ht8 frm hf1 (q + 1 + 1) (q + 1) hM8.bo.cell hM8.bt.cell
            have HM8 := Lib.hid hM8
            have HW8 := Lib.hid hW8
            have HG8 := Lib.hid hg8
            have h8l := hn8.lt
            have hg8e : W7.heap.size ≤ g8 := by rw [← hg8]; exact Nat.le_refl _
            have hwl : w.heap.size ≤ W8.heap.size := hM8.bel.size
            have hg8l : w.heap.size + 2 ≤ g8 := by have := hM7.b9.lt; omega
            clear hW8 hg8 hM7 hM8 ht7 ht8 hx7 hc7 hb8 HS7 HM HBA c14 c7 HX HDD1 HDD2 HXS HNX HLB4 HHL4
            go_wp2_with fail
            rw [HW8.out, HG8.out]
            clear c9r HW8 HG8
            refine (wpIn_wide (n := 6)).1 ?_
            refine range_law_as #[23, 24] rfl (by omega) (gf := 51) (lb := #[.pointer (some ⟨q + 1 + 1, 0, none⟩), .pointer (some ⟨q + 1, 0, none⟩)]) rfl trivial (enters_of Try.func51 (by kernel_rfl) rfl) (hgv _) (fun _ => rfl)
              (fun pre X => Chg (fun b => b = g8) W8 X ∧ Boxed X g8 3 (.int .i64 (cnt3 pre : Nat))) (fun _ _ _ => False) (fun pre A B h hs => ⟨h.1.sim hs (Nat.le_refl _), boxed_sim h.2 hs⟩) (fun _ _ _ _ h _ => h) ⟨Chg.refl _ _, hn8⟩ ?as3 ?bo3 ?do3 ?st3
            case as3 =>
              intro lp x W K hK
              have HKK := Lib.hid hK
              clear hK
              simp only [encI, asg_two, List.setIfInBounds_toArray, List.set_cons_zero, List.set_cons_succ] at HKK
              simp only [encI]
              gi_wp2
              exact HKK.out
            case st3 =>
              rintro D j pre W _ _ h _
              exact h.elim
            case bo3 =>
              intro lp pre x W hI hpx hwz hl1 hl2 _
              simp only [encI, asg_two, List.setIfInBounds_toArray, List.set_cons_zero, List.set_cons_succ]
              obtain ⟨hcw, hbn'⟩ := hI
              have hlen : pre.length + 1 ≤ 512 := by
                have h1 := hpx.length_le
                have h2 := items_len (upd g 511 7) 0 frm 512
                simp at h1
                omega
              have hcl := cnt3_le pre
              have hsn := cnt3_snoc pre x
              have cn := hbn'.cell
              have fn := hbn'.frozen
              have hcx : Chg (fun b => b = g8) W (W.setCell ⟨g8, 0, none⟩ (.int .i64 ((cnt3 pre : Int) + 1))) := (Chg.refl (fun b => b = g8) W).setCell (p := ⟨g8, 0, none⟩) (fun _ => rfl) _
              have HE1 : Hid (cnt3 (pre ++ [x]) = cnt3 pre → Held W8.heap.size (W8.heap.size + 2) cc W W ∧ Chg (fun b => b = g8) W8 W ∧ Boxed W g8 3 (.int .i64 (cnt3 (pre ++ [x]) : Nat))) := fun e => by rw [e]; exact ⟨Held.refl _ _ _ _, hcw, hbn'⟩
              have HE2 : Hid (cnt3 (pre ++ [x]) = cnt3 pre + 1 → Held W8.heap.size (W8.heap.size + 2) cc W (W.setCell ⟨g8, 0, none⟩ (.int .i64 ((cnt3 pre : Int) + 1))) ∧ Chg (fun b => b = g8) W8 (W.setCell ⟨g8, 0, none⟩ (.int .i64 ((cnt3 pre : Int) + 1))) ∧ Boxed (W.setCell ⟨g8, 0, none⟩ (.int .i64 ((cnt3 pre : Int) + 1))) g8 3 (.int .i64 (cnt3 (pre ++ [x]) : Nat))) := fun e => by
                rw [e]
                exact ⟨Held.of_chg hcx (fun b h1 h2 => by omega) (fun b h1 => by omega) hwz, hcw.trans hcx (fun _ _ h => h), hbn'.set _⟩
              clear hcw hbn' hcx hpx
              obtain ⟨y, z⟩ := x
              simp only at hsn
              by_cases h1 : y = 511
              · have e1 : ((y : Int) == 511) = true := by rw [h1]; rfl
                by_cases h2 : z = 7
                · have e2 : (z == 7) = true := by simpa using h2
                  have HE := Lib.hid (HE2.out (by rw [hsn, if_pos ⟨h1, h2⟩]))
                  clear hsn HE1 HE2 h1 h2
                  generalize cnt3 pre = cp at *
                  gi_wp2_with fail
                  exact HE.out
                · have e2 : (z == 7) = false := by simpa using h2
                  have HE := Lib.hid (HE1.out (by rw [hsn, if_neg (fun h => h2 h.2)]; rfl))
                  clear hsn HE1 HE2 h1 h2
                  generalize cnt3 pre = cp at *
                  gi_wp2_with fail
                  exact HE.out
              · have e1 : ((y : Int) == 511) = false := by simp; omega
                have HE := Lib.hid (HE1.out (by rw [hsn, if_neg (fun h => h1 h.1)]; rfl))
                clear hsn HE1 HE2 h1
                generalize cnt3 pre = cp at *
                gi_wp2_with fail
                exact HE.out
            case do3 =>
              rintro D3 W hD3 hI hK
              obtain ⟨hcw, hbn'⟩ := hI
              rw [cnt3_all] at hbn'
              have c5 := (boxed_chg HM8.out.b5 hcw (fun h => by omega)).cell
              have hb6 := boxed_chg HM8.out.b6 hcw (fun h => by omega)
              have c6 := hb6.cell
              have f6 := hb6.frozen
              have cn := hbn'.cell
              have HB6 := Lib.hid hb6
              have HKK1 := Lib.hid (hcw.heap HK1.out (fun h => by omega))
              have HKK2 := Lib.hid (hcw.heap HK2.out (fun h => by omega))
              have HKK3 := Lib.hid hK
              have HBW := Lib.hid (HM8.out.bel.trans (hcw.below _ HM8.out.bel.size (fun b h1 h2 => by omega)))
              clear hcw hbn' hb6 hK HK1 HK2
              have hfc : (frm ≤ 511 ∧ ¬ 511 < frm) ∨ (511 < frm ∧ ¬ frm ≤ 511) := by omega
              rcases hfc with ⟨h1, h2⟩ | ⟨h1, h2⟩
              · rw [if_pos h1] at cn
                go_wp2_with fail
                have d1 : D1 ≠ w.heap.size + 1 := by omega
                have d2 : D2 ≠ w.heap.size + 1 := by omega
                have d3 : D3 ≠ w.heap.size + 1 := by omega
                have k3 : (W.setCell ⟨w.heap.size + 1, 0, none⟩ (.bool true)).heap[D3]? = some (.deferred (some [])) := (heap_setCell_other W _ _ _ d3).trans HKK3.out
                have k2 : (W.setCell ⟨w.heap.size + 1, 0, none⟩ (.bool true)).heap[D2]? = some (.deferred (some [])) := (heap_setCell_other W _ _ _ d2).trans HKK2.out
                have k1 : (W.setCell ⟨w.heap.size + 1, 0, none⟩ (.bool true)).heap[D1]? = some (.deferred (some [])) := (heap_setCell_other W _ _ _ d1).trans HKK1.out
                have hbx := HB6.out.set (.bool true)
                have hb : Below w.heap.size w (W.setCell ⟨w.heap.size + 1, 0, none⟩ (.bool true)) := HBW.out.setCell (p := ⟨w.heap.size + 1, 0, none⟩) (by show w.heap.size ≤ w.heap.size + 1; omega) _
                exact leave3 k1 k2 k3 (by omega) (by omega) (by omega) (by omega) (by omega) (by omega) hbx hb rfl
              · rw [if_neg h2] at cn
                go_wp2_with fail
                have d1 : D1 ≠ w.heap.size + 1 := by omega
                have d2 : D2 ≠ w.heap.size + 1 := by omega
                have d3 : D3 ≠ w.heap.size + 1 := by omega
                have k3 : (W.setCell ⟨w.heap.size + 1, 0, none⟩ (.bool true)).heap[D3]? = some (.deferred (some [])) := (heap_setCell_other W _ _ _ d3).trans HKK3.out
                have k2 : (W.setCell ⟨w.heap.size + 1, 0, none⟩ (.bool true)).heap[D2]? = some (.deferred (some [])) := (heap_setCell_other W _ _ _ d2).trans HKK2.out
                have k1 : (W.setCell ⟨w.heap.size + 1, 0, none⟩ (.bool true)).heap[D1]? = some (.deferred (some [])) := (heap_setCell_other W _ _ _ d1).trans HKK1.out
                have hbx := HB6.out.set (.bool true)
                have hb : Below w.heap.size w (W.setCell ⟨w.heap.size + 1, 0, none⟩ (.bool true)) := HBW.out.setCell (p := ⟨w.heap.size + 1, 0, none⟩) (by show w.heap.size ≤ w.heap.size + 1; omega) _
                exact leave3 k1 k2 k3 (by omega) (by omega) (by omega) (by omega) (by omega) (by omega) hbx hb rfl

theorem RadixLater.walk (W : World) (A : Option Addr) (n c : Nat) (l : List PutV) (hr : RdT W A n c l) (hA : A = none → c = 0) (A' : Option Addr) (n' c' : Nat) (l' : List PutV) (hr' : RdT W A' n' c' l') (hA' : A' = none → c' = 0) (hnn : (n + n') * 24 ≤ 140737488355328) (frm : Int) (hw : (Lit.int .i64 frm).wf = true) :
    Calls Try.prog 4 #[.slice A n c, .slice A' n' c', .int .i64 frm] W fun e w' => e = .returned (.bool true) ∧ Below W.heap.size W w' :=
  callsIn_wide.1 (radixLater_any W A n c l hr hA A' n' c' l' hr' hA' hnn frm (bounds_i64 hw).1)

end Go.Proofs.Ytfljnfmocmhhdaa
