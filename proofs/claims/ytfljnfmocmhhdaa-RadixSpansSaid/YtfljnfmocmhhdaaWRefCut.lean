/-
The document's Cut of a tree of ints.
-/
import Derived.Test.YtfljnfmocmhhdaaWRefFrom
namespace Go.Proofs.Ytfljnfmocmhhdaa
open Go.RowKit

/-- behind k rounds -/
structure RcI (w : World) (B q : Nat) (f : Nat → Int) (xs : List (Nat × Int)) (vl : Value) (v : Value) (k : Nat) (W : World) : Prop where
  src : W.ownsRow w.heap.size 131 2 vl xs.length (cellsP xs)
  row : W.ownsRow B 3 1 v k ((xs.take k).map fun x => .int .i64 x.2)
  ref : RefT W q (clr f (xs.take k))
  chg : Chg (fun b => b = q) w W
  big : B ≤ W.heap.size

theorem RcI.step {w wr w2 : World} {B q : Nat} {f : Nat → Int} {xs : List (Nat × Int)} {vl v v' : Value} {k a : Nat} {pg : Int} {t : TypeId} {cs : Array Value} (h : RcI w B q f xs vl v k wr) (hq : q < w.heap.size) (hB : w.heap.size ≤ B) (hvl : ∀ b, vl.ownBlock = some b → b < B)
    (hts : xs.take (k + 1) = xs.take k ++ [(a, pg)]) (hown : w2.ownsRow B 3 1 v' (k + 1) ((xs.take k).map (fun x => Value.int .i64 x.2) ++ [.int .i64 pg])) (hg : (wr.alloc (.cells cs t)).grownBy w2 v.ownBlock) :
    RefT w2 q (clr f (xs.take k)) ∧ w2.ownsRow w.heap.size 131 2 vl xs.length (cellsP xs) ∧ ∀ W', W' = w2.drew.setCell ⟨q, a, none⟩ (.int .i64 0) → RcI w B q f xs vl v' (k + 1) W' := by
  have hlt := h.row.lt
  have hc : Chg (fun b => v.ownBlock = some b) wr w2 := ((Chg.refl _ wr).alloc _).grown hg (fun k e _ => e)
  have hr2 : RefT w2 q (clr f (xs.take k)) := h.ref.chg hc (fun e => by have := hlt _ e; omega)
  have ho2 : w2.ownsRow w.heap.size 131 2 vl xs.length (cellsP xs) := own_chg h.src hc (fun b hb e => by have := hlt _ e; have := hvl b hb; omega)
  refine ⟨hr2, ho2, ?_⟩
  rintro W' rfl
  have hc3 : Chg (fun b => b = q) w2 (w2.drew.setCell ⟨q, a, none⟩ (.int .i64 0)) := ((Chg.refl (fun b => b = q) w2).drew).setCell (p := ⟨q, a, none⟩) (fun _ => rfl) _
  refine ⟨own_chg ho2 hc3 (fun b hb e => by have := (ho2.lt _ hb).1; omega), ?_, ?_, ?_, ?_⟩
  · rw [hts, List.map_append]
    exact own_chg hown hc3 (fun b hb e => by have := (hown.lt _ hb).1; omega)
  · rw [hts, clr_snoc]
    exact RefT.set (w := w2.drew) hr2 a 0
  · exact (h.chg.trans hc (fun x hx e => by have := hlt _ e; omega)).trans hc3 (fun _ _ e => e)
  · have h1 := h.big; have h2 := hc.size; have h3 := hc3.size; omega

set_option maxRecDepth 100000 in
set_option maxHeartbeats 4000000 in
theorem ref_cut (w : World) (q : Nat) (f : Nat → Int) (h : RefT w q f) (off : Int) : Calls Try.prog 72 #[.pointer (some ⟨q, 0, none⟩), .int .i64 off] w fun e w' => ∃ v, e = .returned v ∧
    w'.ownsRow w.heap.size 3 1 v (items f 0 off 512).length ((items f 0 off 512).map fun x => .int .i64 x.2) ∧ RefT w' q (cutI f off) ∧ Chg (fun b => b = q) w w' := by
  obtain ⟨i0, hi, hz0, hz1, hz2⟩ := info_parts info3
  have hq := h.lt
  have HR := Lib.hid h
  have HF := Lib.hid (ref_from w q f h off)
  have hlen := items_len f 0 off 512
  have HM := Lib.hid (fun x (hx : x ∈ items f 0 off 512) => items_mem hx)
  have HALL := Lib.hid (clr_all f off)
  clear h
  go_enter Try.func72, Try.ntmps72
  go_wp2_with fail
  refine HF.out.mono ?_
  rintro e w1 ⟨vl, rfl, ho, hb⟩
  obtain ⟨A, c, rfl, hA⟩ := own_slice ho
  generalize hxs : items f 0 off 512 = xs at *
  generalize hn : xs.length = n at *
  have Hn := Lib.hid hn
  have HXS := Lib.hid hxs
  have HS0 : Hid (RcI w w1.heap.size q f xs (.slice A n c) (.slice none 0 0) 0 w1) := by
    refine ⟨by rw [Hn.out]; exact ho, World.ownsRow_nil _ _ _ _, (HR.out.below hb).congr (fun i _ => by simp [clr]), Chg.of_below _ hb, Nat.le_refl _⟩
  have hs1 := hb.size
  have HVL : Hid (∀ b, (Value.slice A n c).ownBlock = some b → b < w1.heap.size) := fun b e => (ho.lt b e).2
  clear ho hb hn hxs HF
  go_wp2_with fail
  go_loopw [6, 7] (fun v6 v7 wr => ∃ k : Nat, k ≤ n ∧ v7 = .int .i64 k ∧ Hid (RcI w w1.heap.size q f xs (.slice A n c) v6 k wr)) (fun _ v7 _ => n - (intOf v7).toNat)
  case atStart => exact ⟨0, by omega, rfl, HS0⟩
  case round =>
    clear HS0
    obtain ⟨k, hk, rfl, HS⟩ := hrel
    by_cases hlt : k < n
    · obtain ⟨g, rfl⟩ := hA (by omega)
      obtain ⟨⟨a, pg⟩, hx⟩ : ∃ x, xs[k]? = some x := ⟨_, List.getElem?_eq_getElem (by rw [Hn.out]; exact hlt)⟩
      obtain ⟨ha, _, _, _⟩ := HM.out _ (List.mem_of_getElem? hx)
      simp only at ha
      have hts := take_succ_get xs k _ hx
      obtain ⟨e1, e2⟩ := cellsP_at xs k _ hx
      have hsrc := HS.out.src
      rw [Hn.out] at hsrc
      obtain ⟨d1, _⟩ := own_at hsrc e1
      obtain ⟨d2, _⟩ := own_at hsrc e2
      have hgw := hsrc.lt g rfl
      have hbig := HS.out.big
      have HTS := Lib.hid hts
      have HX := Lib.hid hx
      simp only at d1 d2
      clear hx hts e1 e2 hsrc
      go_wp2_with (at_builtin; refine wpList_append_own _ rfl _ _ 32 rfl w1.heap.size 3 i0 (.int .i64 0) 1 8 Try.underlying32 hi hz0 hz1 hz2 rfl (by decide) _ k _ rfl (HS.out.row.alloc _) ⟨wr.heap.size, 0, none⟩ 1 1 [.int .i64 pg] rfl rfl (World.news_of_block (cs := #[.int .i64 pg]) (t := 3) (fr := (0, 0)) (heap_alloc_new wr _)) (by simp [Value.oneCell']) (by simp only [maxLen]; omega) (by omega) (by simp; omega) ?_; intro v' w2 hown' hgrow _)
      obtain ⟨hr2, ho2, hstep⟩ := HS.out.step hq hs1 HVL.out HTS.out hown' hgrow
      rw [Hn.out] at ho2
      have c3 := hr2.cell a ha
      have f3 := hr2.free a
      obtain ⟨e1, _⟩ := cellsP_at xs k _ HX.out
      obtain ⟨d3, _⟩ := own_at ho2 e1
      have HST := Lib.hid hstep
      have hgq : g ≠ q := by omega
      clear hown' hgrow hr2 ho2 hstep e1 HS
      have hs : (fun W : World => W.cell? ⟨g, k * 2, none⟩ = some (.int .i64 (a : Int))) w2.drew := d3
      refine wp_region_held_drew (S := fun W => W.cell? ⟨g, k * 2, none⟩ = some (.int .i64 (a : Int))) (by kernel_rfl) hs (fun hS => ?_)
      refine takeD (i := 0) (v := .pointer (some ⟨q, 0, none⟩)) 25 rfl rfl (by kernel_rfl) (by kernel_rfl) (by kernel_rfl) (fun _ _ _ h => h) (Or.inl ⟨by rfl, fun W hW => by go_simp⟩) hS ?_
      simp only [Act.put, List.setIfInBounds_toArray, List.set_cons_zero, List.set_cons_succ]
      refine takeD (i := 1) (v := .slice (some ⟨g, 0, none⟩) n c) 26 rfl rfl (by kernel_rfl) (by kernel_rfl) (by kernel_rfl) (fun _ _ _ h => h) (Or.inl ⟨by rfl, fun W hW => by go_simp⟩) hS ?_
      simp only [Act.put, List.setIfInBounds_toArray, List.set_cons_zero, List.set_cons_succ]
      refine takeD (i := 2) (v := .int .i64 k) 27 rfl rfl (by kernel_rfl) (by kernel_rfl) (by kernel_rfl) (fun _ _ _ h => h) (Or.inl ⟨by rfl, fun W hW => by go_simp⟩) hS ?_
      simp only [Act.put, List.setIfInBounds_toArray, List.set_cons_zero, List.set_cons_succ]
      refine takeD (i := 3) (v := .pointer (some ⟨g, k * 2, none⟩)) 28 rfl rfl (by kernel_rfl) (by kernel_rfl) (by kernel_rfl) (fun _ _ _ h => h) (Or.inl ⟨by rfl, fun W hW => by go_simp⟩) hS ?_
      simp only [Act.put, List.setIfInBounds_toArray, List.set_cons_zero, List.set_cons_succ]
      refine takeD (i := 4) (v := .pointer (some ⟨g, k * 2, none⟩)) 29 rfl rfl (by kernel_rfl) (by kernel_rfl) (by kernel_rfl) (fun _ _ _ h => h) (Or.inl ⟨by rfl, fun W hW => by go_simp⟩) hS ?_
      simp only [Act.put, List.setIfInBounds_toArray, List.set_cons_zero, List.set_cons_succ]
      refine takeD (i := 5) (v := .int .i64 a) 30 rfl rfl (by kernel_rfl) (by kernel_rfl) (by kernel_rfl) (fun _ _ _ h => h) (Or.inl ⟨by rfl, fun W hW => by have hcW : W.cell? ⟨g, k * 2, none⟩ = some (.int .i64 (a : Int)) := hW; go_simp⟩) hS ?_
      simp only [Act.put, List.setIfInBounds_toArray, List.set_cons_zero, List.set_cons_succ]
      refine takeD (i := 6) (v := .pointer (some ⟨q, 0, none⟩)) 31 rfl rfl (by kernel_rfl) (by kernel_rfl) (by kernel_rfl) (fun _ _ _ h => h) (Or.inl ⟨by rfl, fun W hW => by go_simp⟩) hS ?_
      simp only [Act.put, List.setIfInBounds_toArray, List.set_cons_zero, List.set_cons_succ]
      refine takeD (i := 7) (v := .pointer (some ⟨q, 0, none⟩)) 32 rfl rfl (by kernel_rfl) (by kernel_rfl) (by kernel_rfl) (fun _ _ _ h => h) (Or.inl ⟨by rfl, fun W hW => by go_simp⟩) hS ?_
      simp only [Act.put, List.setIfInBounds_toArray, List.set_cons_zero, List.set_cons_succ]
      refine takeD (i := 8) (v := .pointer (some ⟨q, a, none⟩)) 33 rfl rfl (by kernel_rfl) (by kernel_rfl) (by kernel_rfl) (fun _ _ _ h => h) (Or.inl ⟨by rfl, fun W hW => by go_simp; intro h; omega⟩) hS ?_
      simp only [Act.put, List.setIfInBounds_toArray, List.set_cons_zero, List.set_cons_succ]
      refine wpAnyH_ready (rs := [9]) (by kernel_rfl) (by simp) (AllReadyH.cons rfl (fun K hK => ?_) AllReadyH.nil)
      go_simp
      refine hK.out _ _ ?_ (fun h3 => ?_)
      · show (w2.drew.setCell ⟨q, a, none⟩ (.int .i64 0)).cell? ⟨g, k * 2, none⟩ = some (.int .i64 (a : Int))
        rw [World.cell?_setCell_other _ _ _ _ (by intro e; cases e; exact hgq rfl)]; exact d3
      clear hK K
      refine wpAnyH_done (by kernel_rfl) ?_ _
      go_wp2_with fail
      go_roundw
      case rel => exact ⟨k + 1, by omega, by go_num, HST.out _ rfl⟩
      case measure => simp [intOf]; omega
    · obtain rfl : n = k := by omega
      go_wp2_with fail
      go_ret
      have hrow := HS.out.row
      have href := HS.out.ref
      rw [List.take_of_length_le (Nat.le_of_eq Hn.out)] at hrow href
      rw [HXS.out, Hn.out]
      exact ⟨_, rfl, own_base hrow hs1, href.congr (fun i hi => HALL.out i hi), HS.out.chg⟩

end Go.Proofs.Ytfljnfmocmhhdaa
