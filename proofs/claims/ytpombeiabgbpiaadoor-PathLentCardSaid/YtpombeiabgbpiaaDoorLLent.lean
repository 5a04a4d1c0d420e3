/-
PathLent: what is handed in is neither changed nor written behind.
-/
import Derived.Test.YtpombeiabgbpiaaDoorWCopy
import Derived.Test.YtpombeiabgbpiaaDoorWSameE
import Derived.Test.YtpombeiabgbpiaaDoorWClean
import Derived.Test.YtpombeiabgbpiaaDoorWSame
namespace Go.Proofs.YtpombeiabgbpiaaDoor
open Go.RowKit

abbrev tMark : ByteArray := ⟨#[109, 97, 114, 107]⟩
abbrev tMore : ByteArray := ⟨#[109, 111, 114, 101]⟩
abbrev eMark : EdgeV := (-7, tMark, 7, false)
abbrev eMore : EdgeV := (-8, tMore, 8, false)
theorem RdE.take {w : World} {A : Option Addr} {n c : Nat} {l : List EdgeV} (h : RdE w (.slice A n c) l) (m : Nat) (hm : m ≤ l.length) : RdE w (.slice A m c) (l.take m) := by
  obtain ⟨A', c', e, h1, h2, h4, h3⟩ := h
  injection e with e1 e2 e3
  subst e1 e2 e3
  refine ⟨A, c, by rw [List.length_take, Nat.min_eq_left hm], by rw [List.length_take]; omega, h2, fun e he => h4 e (List.mem_of_mem_take he), fun h0 => ?_⟩
  rw [List.length_take] at h0
  obtain ⟨b, off, e, hb, hh⟩ := h3 (by omega)
  refine ⟨b, off, e, hb, fun i s hs => hh i s ?_⟩
  rw [List.getElem?_take] at hs
  split at hs
  · exact hs
  · cases hs
theorem rds_cell {W : World} {g n c : Nat} {l : List ByteArray} (h : RdS W (.slice (some ⟨g, 0, none⟩) n c) l) {i : Nat} {s : ByteArray} (hs : l[i]? = some s) : W.cell? ⟨g, i, none⟩ = some (.string s) := by
  obtain ⟨A, c', e, _, _, h3⟩ := h
  obtain ⟨b, off, e2, _, hh⟩ := h3 (by have := (List.getElem?_eq_some_iff.1 hs).1; omega)
  injection e with e
  rw [e2] at e
  injection e with e
  injection e with e1 e2
  have := hh i s hs
  rw [← e1, ← e2, Nat.zero_add] at this
  exact this
theorem rde_cell {W : World} {g n c : Nat} {l : List EdgeV} (h : RdE W (.slice (some ⟨g, 0, none⟩) n c) l) {i : Nat} {e : EdgeV} (hs : l[i]? = some e) : W.cell? ⟨g, i * 4, none⟩ = some (.int .i64 e.1) ∧ W.cell? ⟨g, i * 4 + 2, none⟩ = some (.int .i64 e.2.2.1) ∧ g < W.heap.size := by
  obtain ⟨A, c', e', _, _, _, h3⟩ := h
  obtain ⟨b, off, e2, hb, hh⟩ := h3 (by have := (List.getElem?_eq_some_iff.1 hs).1; omega)
  injection e' with e'
  rw [e2] at e'
  injection e' with e'
  injection e' with e1 e2
  have r := hh i e hs
  rw [← e1, ← e2, Nat.zero_add] at r
  exact ⟨r 0 _ rfl, r 2 _ rfl, by rw [e1]; exact hb⟩
theorem box25 {W : World} {b : Nat} {u : Value} {sl : Bool} (h : W.heap[b]? = some (.cells #[u, .bool sl] 25 (0, 0))) : W.cell? ⟨b, 0, none⟩ = some u ∧ W.cell? ⟨b, 1, none⟩ = some (.bool sl) :=
  ⟨by rw [cell_of_row _ _ _ _ _ _ h]; rfl, by rw [cell_of_row _ _ _ _ _ _ h]; rfl⟩
theorem ok_mark : eMark.Ok ∧ eMore.Ok := ⟨⟨by decide, by rw [maxLen_eq]; decide, by decide⟩, ⟨by decide, by rw [maxLen_eq]; decide, by decide⟩⟩

set_option maxRecDepth 100000 in
set_option maxHeartbeats 8000000 in
theorem lent_any (W : World) (Ae : Option Addr) (m ce : Nat) (es : List EdgeV) (A : Option Addr) (n c : Nat) (l : List ByteArray) (sl : Bool) (hE : RdE W (.slice Ae m ce) es) (hez : Nz (.slice Ae m ce)) (hel : m ≤ 3518437208780)
    (hs : StrsV W (.slice A n c) l) (hz : Nz (.slice A n c)) :
    Calls Tryd.prog 15 #[.slice Ae m ce, .agg #[.slice A n c, .bool sl]] W fun e W' => e = .returned (.bool true) ∧ Below W.heap.size W W' := by
  obtain ⟨i0, hi, hz0, hz1, hz2⟩ := info_parts info9
  obtain ⟨i4, hi4, hz40, hz41, hz42⟩ := info_parts info44
  have hm : es.length = m := by obtain ⟨_, _, e, _⟩ := hE; injection e with _ e; exact e.symm
  have hn : l.length = n := by obtain ⟨_, _, e, _⟩ := hs.1; injection e with _ e; exact e.symm
  have hok : ∀ e ∈ es, e.Ok := by obtain ⟨_, _, _, _, _, o, _⟩ := hE; exact o
  have hlen := hs.2.2
  rw [hn] at hlen
  have hcm : n ≤ c ∧ c ≤ 9223372036854775807 := by
    obtain ⟨_, _, e, k1, k2, _⟩ := hs.1
    injection e with _ e1 e
    exact ⟨by rw [e, e1]; exact k1, by rw [e]; exact maxLen_eq ▸ k2⟩
  obtain ⟨hc1, hc2⟩ := hcm
  have hcm : m ≤ ce ∧ ce ≤ 9223372036854775807 := by
    obtain ⟨_, _, e, k1, k2, _⟩ := hE
    injection e with _ e1 e
    exact ⟨by rw [e, e1]; exact k1, by rw [e]; exact maxLen_eq ▸ k2⟩
  obtain ⟨hce1, hce2⟩ := hcm
  have HNL := Lib.hid hn
  have HML := Lib.hid hm
  have HOK := Lib.hid hok
  have HNM := Lib.hid hs.2.1.max
  have HZ := Lib.hid hz
  have HEZ := Lib.hid hez
  have hb0 : Below W.heap.size W (W.alloc (.cells #[.slice A n c, .bool sl] 25)) := (Below.refl _ _).alloc (Nat.le_refl _) _
  have HB : Hid (∀ W', Below (W.heap.size + 1) (W.alloc (.cells #[.slice A n c, .bool sl] 25)) W' → Below W.heap.size W W' ∧ W'.heap[W.heap.size]? = some (.cells #[.slice A n c, .bool sl] 25 (0, 0)) ∧ RdS W' (.slice A n c) l ∧ RdE W' (.slice Ae m ce) es) := Lib.hid (fun W' hb => by
    have hb2 := below_lift hb0 (by simpa using hb)
    exact ⟨hb2, (hb.block _ (by simp)).trans (heap_alloc_new W _), hs.1.below hb2, hE.below hb2⟩)
  clear hb0 hE hez hs hz hok hn hm
  go_enter Tryd.func15, Tryd.ntmps15
  go_wp2_with fail
  refine (first_any _).mono ?_
  rintro e w1 ⟨rfl, hb1⟩
  have hq : Below (W.heap.size + 1) (W.alloc (.cells #[.slice A n c, .bool sl] 25)) w1 := by simpa using hb1
  have hszw : W.heap.size + 1 ≤ w1.heap.size := by have := hb1.size; simpa using this
  have hbx := (HB.out _ hq).2.1
  have d0 := cell_of_row _ _ 0 _ _ _ hbx
  have d1 := cell_of_row _ _ 1 _ _ _ hbx
  simp only [List.getElem?_toArray, List.getElem?_cons_zero, List.getElem?_cons_succ] at d0 d1
  have hlt := heap_lt hbx
  have hsrc := (HB.out _ hq).2.2.1.src (k := n) HZ.out (by rw [HNL.out]; exact Nat.le_refl _)
  rw [List.take_of_length_le (by rw [HNL.out]; exact Nat.le_refl _)] at hsrc
  have HSRC := Lib.hid hsrc
  have HQ := Lib.hid hq
  clear hb1 hbx hsrc hq
  go_wp2_with (first
    | (at_builtin; refine wpList_append_src _ rfl _ _ 23 rfl w1.heap.size 9 i0 (.string ByteArray.empty) 1 16 Tryd.underlying23 hi hz0 hz1 hz2 rfl (by decide) (.slice none 0 0) 0 [] rfl (World.ownsRow_nil _ _ _ _) A n c _ rfl HSRC.out (by intro u hu; obtain ⟨s, _, rfl⟩ := List.mem_map.1 hu; rfl) (by rw [maxLen_eq]; omega) (by omega) (Nat.le_refl _) ?_; intro v2 w2 hown2 hg2; rw [Nat.zero_add, List.nil_append] at hown2; obtain ⟨A2, c2, rfl⟩ := own_form hown2; have HO2 := Lib.hid hown2; have HB2 := Lib.hid ((Below.refl w1.heap.size w1).grown hg2 (Nat.le_refl _) (fun k e => by cases e)); have hs2 := HB2.out.size; clear hown2 hg2)
    | (at_builtin; refine wpList_append_own_at _ rfl _ _ 23 rfl w1.heap.size 9 i0 (.string ByteArray.empty) 1 16 Tryd.underlying23 hi hz0 hz1 hz2 rfl (by decide) (.slice A2 n c2) n _ rfl (HO2.out.alloc _) ⟨w2.heap.size, 0, none⟩ 2 2 [.string tMark, .string tMore] rfl rfl (World.news_of_block (cs := #[.string tMark, .string tMore]) (t := 9) (fr := (0, 0)) (heap_alloc_new w2 _)) (by simp [Value.oneCell']) (by rw [maxLen_eq]; omega) (by omega) (by simp; omega) ?_; intro v3 w3 hown3 hg3 _ _; obtain ⟨A3, c3, rfl⟩ := own_form hown3; have HO3 := Lib.hid hown3; have HB3 := Lib.hid (HB2.out.trans (below_grown HO2.out hs2 hg3)); clear hown3 hg3))
  have HQ3 := Lib.hid (below_up (n := W.heap.size + 1) (a := W.alloc (.cells #[.slice A n c, .bool sl] 25)) (by simp) HQ.out HB3.out)
  refine (copyEdges_any w3 Ae m ce es (HB.out _ HQ3.out).2.2.2 HEZ.out (by omega)).mono ?_
  rintro e w4 ⟨v4, rfl, ho4, hb4⟩
  obtain ⟨A4, c4, rfl⟩ := own_form ho4
  have HO4 := Lib.hid ho4
  have HB4 := Lib.hid hb4
  have hs4 := hb4.size
  clear ho4 hb4 d0 d1 HSRC HB2 HO2
  go_wp2_with (at_builtin; refine wpList_append_own_at _ rfl _ _ 35 rfl w3.heap.size 44 i4 (.agg #[.int .i64 0, .string ByteArray.empty, .int .i64 0, .bool false]) 4 40 Tryd.underlying35 hi4 hz40 hz41 hz42 rfl (by decide) (.slice A4 m c4) m _ rfl (HO4.out.alloc _) ⟨w4.heap.size, 0, none⟩ 2 2 (eMark.cells ++ eMore.cells) rfl rfl (World.news_of_block (cs := (eMark.cells ++ eMore.cells).toArray) (t := 44) (fr := (0, 0)) (heap_alloc_new w4 _)) (by simp [EdgeV.cells, Value.oneCell']) (by rw [maxLen_eq]; omega) (by omega) (by simp; omega) ?_; intro v5 w5 hown5 hg5 _ _; obtain ⟨A5, c5, rfl⟩ := own_form hown5; have HO5 := Lib.hid hown5; have HB5 := Lib.hid (HB4.out.trans (below_grown HO4.out hs4 hg5)); have hbx := (HB.out _ (below_up (n := W.heap.size + 1) (a := W.alloc (.cells #[.slice A n c, .bool sl] 25)) (by simp) HQ3.out HB5.out)).2.1; have d0 := cell_of_row _ _ 0 _ _ _ hbx; have d1 := cell_of_row _ _ 1 _ _ _ hbx; have hlt5 := heap_lt hbx; simp only [List.getElem?_toArray, List.getElem?_cons_zero, List.getElem?_cons_succ] at d0 d1; clear hown5 hg5 hbx)
  obtain ⟨g3, hv3, kn1, kn2⟩ : ∃ g3, A3 = some ⟨g3, 0, none⟩ ∧ n + 2 ≤ c3 ∧ c3 ≤ 9223372036854775807 := by
    rcases HO3.out.2 with ⟨_, e⟩ | ⟨g3, cap3, cur3, e, _, _, k1, k2, _⟩
    · omega
    · injection e with e1 _ e3
      subst e1 e3
      exact ⟨g3, rfl, k1, maxLen_eq ▸ k2⟩
  obtain ⟨g5, hv5, km1, km2⟩ : ∃ g5, A5 = some ⟨g5, 0, none⟩ ∧ m + 2 ≤ c5 ∧ c5 ≤ 9223372036854775807 := by
    rcases HO5.out.2 with ⟨_, e⟩ | ⟨g3, cap3, cur3, e, _, _, k1, k2, _⟩
    · omega
    · injection e with e1 _ e3
      subst e1 e3
      exact ⟨g3, rfl, k1, maxLen_eq ▸ k2⟩
  subst hv3 hv5
  have kn3 : n ≤ c3 := by omega
  have km3 : m ≤ c5 := by omega
  have HF3 : Hid (RdS w3 (.slice (some ⟨g3, 0, none⟩) (n + 2) c3) (l ++ [tMark, tMore])) := by
    refine Lib.hid (RdS.of_own (B := w1.heap.size) ?_)
    rw [List.length_append, HNL.out, List.map_append]
    exact HO3.out
  have HF5 : Hid (RdE w5 (.slice (some ⟨g5, 0, none⟩) (m + 2) c5) (es ++ [eMark, eMore])) := by
    refine Lib.hid (RdE.of_own (B := w3.heap.size) ?_ (fun x hx => ?_))
    · rw [List.length_append, HML.out]
      have e : edgesC (es ++ [eMark, eMore]) = edgesC es ++ (eMark.cells ++ eMore.cells) := by simp [edgesC]
      rw [e]
      exact HO5.out
    · rcases List.mem_append.1 hx with h | h
      · exact HOK.out x h
      · simp at h
        rcases h with rfl | rfl
        · exact ok_mark.1
        · exact ok_mark.2
  have HQ5 := Lib.hid (below_up (n := W.heap.size + 1) (a := W.alloc (.cells #[.slice A n c, .bool sl] 25)) (by simp) HQ3.out HB5.out)
  have HK : Hid (∀ W', Below (w5.heap.size + 1) (w5.alloc (.cells #[.slice (some ⟨g3, 0, none⟩) n c3, .bool sl] 25)).drew W' → Below W.heap.size W W' ∧ W'.heap[W.heap.size]? = some (.cells #[.slice A n c, .bool sl] 25 (0, 0)) ∧ W'.heap[w5.heap.size]? = some (.cells #[.slice (some ⟨g3, 0, none⟩) n c3, .bool sl] 25 (0, 0)) ∧ RdS W' (.slice A n c) l ∧ RdS W' (.slice (some ⟨g3, 0, none⟩) (n + 2) c3) (l ++ [tMark, tMore]) ∧ RdE W' (.slice Ae m ce) es ∧ RdE W' (.slice (some ⟨g5, 0, none⟩) (m + 2) c5) (es ++ [eMark, eMore])) := Lib.hid (fun W' hb => by
    have h5 : Below w5.heap.size w5 W' := below_lift ((Below.refl _ _).alloc (Nat.le_refl _) _).drew (by simpa using hb)
    have hq := below_up (n := W.heap.size + 1) (a := W.alloc (.cells #[.slice A n c, .bool sl] 25)) (by simp) HQ5.out h5
    obtain ⟨a, b, c, d⟩ := HB.out _ hq
    exact ⟨a, b, (hb.block _ (by show w5.heap.size < w5.heap.size + 1; omega)).trans (heap_alloc_new w5 _), c, HF3.out.below (below_lift HB5.out h5), d, HF5.out.below h5⟩)
  have hq : Below (w5.heap.size + 1) (w5.alloc (.cells #[.slice (some ⟨g3, 0, none⟩) n c3, .bool sl] 25)).drew (w5.alloc (.cells #[.slice (some ⟨g3, 0, none⟩) n c3, .bool sl] 25)).drew := Below.refl _ _
  clear HF3 HF5 HO3 HO4 HO5 HB3 HB4 HB5 HQ3 HQ5 HQ HB d0
  refine wp_region_held_drew (S := fun W' => W'.cell? ⟨W.heap.size, 1, none⟩ = some (.bool sl)) (by kernel_rfl) d1 (fun hHeld => ?_)
  refine takeD (i := 0) (v := .slice (some ⟨g3, 0, none⟩) (n + 2) c3) 36 rfl rfl (by kernel_rfl) (by kernel_rfl) (by kernel_rfl) (fun _ _ _ h => h) (Or.inl ⟨by rfl, fun W hW => by have k1 := hW; go_simp⟩) hHeld ?_
  try simp only [Act.put, List.setIfInBounds_toArray, List.set_cons_zero, List.set_cons_succ]
  refine takeD (i := 1) (v := .int .i64 (n : Int)) 37 rfl rfl (by kernel_rfl) (by kernel_rfl) (by kernel_rfl) (fun _ _ _ h => h) (Or.inl ⟨by rfl, fun W hW => by have k1 := hW; go_simp⟩) hHeld ?_
  try simp only [Act.put, List.setIfInBounds_toArray, List.set_cons_zero, List.set_cons_succ]
  refine takeD (i := 2) (v := .slice (some ⟨g3, 0, none⟩) n c3) 38 rfl rfl (by kernel_rfl) (by kernel_rfl) (by kernel_rfl) (fun _ _ _ h => h) (Or.inl ⟨by rfl, fun W hW => by have k1 := hW; go_simp⟩) hHeld ?_
  try simp only [Act.put, List.setIfInBounds_toArray, List.set_cons_zero, List.set_cons_succ]
  refine takeD (i := 3) (v := .pointer (some ⟨W.heap.size, 1, none⟩)) 39 rfl rfl (by kernel_rfl) (by kernel_rfl) (by kernel_rfl) (fun _ _ _ h => h) (Or.inl ⟨by rfl, fun W hW => by have k1 := hW; go_simp⟩) hHeld ?_
  try simp only [Act.put, List.setIfInBounds_toArray, List.set_cons_zero, List.set_cons_succ]
  refine takeD (i := 4) (v := .bool sl) 40 rfl rfl (by kernel_rfl) (by kernel_rfl) (by kernel_rfl) (fun _ _ _ h => h) (Or.inl ⟨by rfl, fun W hW => by have k1 := hW; go_simp⟩) hHeld ?_
  try simp only [Act.put, List.setIfInBounds_toArray, List.set_cons_zero, List.set_cons_succ]
  refine takeD (i := 5) (v := .agg #[.slice (some ⟨g3, 0, none⟩) n c3, .bool sl]) 41 rfl rfl (by kernel_rfl) (by kernel_rfl) (by kernel_rfl) (fun _ _ _ h => h) (Or.inl ⟨by rfl, fun W hW => by have k1 := hW; go_simp⟩) hHeld ?_
  try simp only [Act.put, List.setIfInBounds_toArray, List.set_cons_zero, List.set_cons_succ]
  refine wpAnyH_ready (rs := [6]) (by kernel_rfl) (by simp) (AllReadyH.cons rfl (fun K hK => ?_) AllReadyH.nil)
  go_simp
  have d1 : (w5.drew.alloc (.cells #[.slice none 0 0, .bool false] 25)).cell? ⟨W.heap.size, 1, none⟩ = some (.bool sl) := by
    rw [World.cell?_alloc_lt _ _ _ hlt5]; exact d1
  refine hK.out _ _ d1 (fun hHeld => ?_)
  clear hK K
  try simp only [Act.put, List.setIfInBounds_toArray, List.set_cons_zero, List.set_cons_succ]
  refine wpAnyH_ready (rs := [7]) (by kernel_rfl) (by simp) (AllReadyH.cons rfl (fun K hK => ?_) AllReadyH.nil)
  go_simp
  obtain ⟨d0, d1⟩ := box25 (HK.out _ hq).2.1
  refine hK.out _ _ d1 (fun hHeld => ?_)
  clear hK K hHeld
  refine wpAnyH_done (by kernel_rfl) ?_ _
  clear d0 d1
  have HTL : Hid ((l ++ [tMark, tMore]).take n = l) := Lib.hid (List.take_left' HNL.out)
  have HTE : Hid ((es ++ [eMark, eMore]).take m = es) := Lib.hid (List.take_left' HML.out)
  have HKQ : Hid (∀ W', Below (w5.heap.size + 1) (w5.alloc (.cells #[.slice (some ⟨g3, 0, none⟩) n c3, .bool sl] 25)).drew W' → RdS W' (.slice (some ⟨g3, 0, none⟩) n c3) l ∧ RdE W' (.slice (some ⟨g5, 0, none⟩) m c5) es) := Lib.hid (fun W' hb => by
    have h1 := (HK.out _ hb).2.2.2.2.1.take n (by rw [List.length_append, HNL.out]; omega)
    have h2 := (HK.out _ hb).2.2.2.2.2.2.take m (by rw [List.length_append, HML.out]; omega)
    rw [HTL.out] at h1
    rw [HTE.out] at h2
    exact ⟨h1, h2⟩)
  obtain ⟨d0, d1⟩ := box25 (HK.out _ hq).2.1
  obtain ⟨g0, g1⟩ := box25 (HK.out _ hq).2.2.1
  have hl1 := heap_lt (HK.out _ hq).2.1
  have hl2 := heap_lt (HK.out _ hq).2.2.1
  go_wp2_with fail
  refine (newTable_any _ _ es (HKQ.out _ hq).2).mono ?_
  rintro e wX ⟨t, rfl, ht, _, hbX⟩
  have hq := below_up (by simp) hq hbX
  have HT := Lib.hid ht
  clear ht hbX
  clear d0 d1 g0 g1 hl1 hl2
  obtain ⟨d0, d1⟩ := box25 (HK.out _ hq).2.1
  obtain ⟨g0, g1⟩ := box25 (HK.out _ hq).2.2.1
  have hl1 := heap_lt (HK.out _ hq).2.1
  have hl2 := heap_lt (HK.out _ hq).2.2.1
  go_wp2_with fail
  refine (text_any _ _ l sl (HKQ.out _ hq).1).mono ?_
  rintro e wX ⟨rfl, hbX⟩
  have hq := below_up (by simp) hq hbX
  have HT := Lib.hid (HT.out.below hbX)
  clear hbX
  clear d0 d1 g0 g1 hl1 hl2
  obtain ⟨d0, d1⟩ := box25 (HK.out _ hq).2.1
  obtain ⟨g0, g1⟩ := box25 (HK.out _ hq).2.2.1
  have hl1 := heap_lt (HK.out _ hq).2.1
  have hl2 := heap_lt (HK.out _ hq).2.2.1
  go_wp2_with fail
  refine (clean_any _ _ l sl (HKQ.out _ hq).1 (by rw [HNL.out]; omega)).mono ?_
  rintro e wX ⟨uC, rfl, _, _, _, hbX⟩
  have hq := below_up (by simp) hq hbX
  have HT := Lib.hid (HT.out.below hbX)
  clear hbX
  clear d0 d1 g0 g1 hl1 hl2
  obtain ⟨d0, d1⟩ := box25 (HK.out _ hq).2.1
  obtain ⟨g0, g1⟩ := box25 (HK.out _ hq).2.2.1
  have hl1 := heap_lt (HK.out _ hq).2.1
  have hl2 := heap_lt (HK.out _ hq).2.2.1
  go_wp2_with fail
  refine (resolve_tab _ t es HT.out HOK.out _ l sl (HKQ.out _ hq).1 (by rw [HNL.out]; omega) HNM.out).mono ?_
  rintro e wX ⟨rfl, hbX⟩
  have hq := below_up (by simp) hq hbX
  have HT := Lib.hid (HT.out.below hbX)
  clear hbX
  clear d0 d1 g0 g1 hl1 hl2
  obtain ⟨d0, d1⟩ := box25 (HK.out _ hq).2.1
  obtain ⟨g0, g1⟩ := box25 (HK.out _ hq).2.2.1
  have hl1 := heap_lt (HK.out _ hq).2.1
  have hl2 := heap_lt (HK.out _ hq).2.2.1
  go_wp2_with fail
  refine (parent_tab _ t es HT.out HOK.out _ l sl (HKQ.out _ hq).1 (by rw [HNL.out]; omega) HNM.out).mono ?_
  rintro e wX ⟨rfl, hbX⟩
  have hq := below_up (by simp) hq hbX
  have HT := Lib.hid (HT.out.below hbX)
  clear hbX
  clear d0 d1 g0 g1 hl1 hl2
  obtain ⟨d0, d1⟩ := box25 (HK.out _ hq).2.1
  obtain ⟨g0, g1⟩ := box25 (HK.out _ hq).2.2.1
  have hl1 := heap_lt (HK.out _ hq).2.1
  have hl2 := heap_lt (HK.out _ hq).2.2.1
  go_wp2_with fail
  refine (copyEdges_any _ Ae m ce es (HK.out _ hq).2.2.2.2.2.1 HEZ.out (by omega)).mono ?_
  rintro e wX ⟨vc, rfl, hoc, hbX⟩
  have hq := below_up (by simp) hq hbX
  have HT := Lib.hid (HT.out.below hbX)
  have HC := Lib.hid (RdE.of_own (l := es) (by rw [HML.out]; exact hoc) HOK.out)
  clear hbX hoc
  clear d0 d1 g0 g1 hl1 hl2
  obtain ⟨d0, d1⟩ := box25 (HK.out _ hq).2.1
  obtain ⟨g0, g1⟩ := box25 (HK.out _ hq).2.2.1
  have hl1 := heap_lt (HK.out _ hq).2.1
  have hl2 := heap_lt (HK.out _ hq).2.2.1
  go_wp2_with fail
  refine (newTable_any _ _ es HC.out).mono ?_
  rintro e wX ⟨u, rfl, hu, _, hbX⟩
  have hq := below_up (by simp) hq hbX
  have HT := Lib.hid (HT.out.below hbX)
  have HU := Lib.hid hu
  clear hbX hu HC
  clear d0 d1 g0 g1 hl1 hl2
  obtain ⟨⟨x1, x2⟩, hX⟩ : ∃ X, lookT es (-7) tMark = X := ⟨_, rfl⟩
  have HXX := Lib.hid hX
  have hx2' : (x2 != x2) = false := by cases x2 <;> rfl
  clear hX
  obtain ⟨d0, d1⟩ := box25 (HK.out _ hq).2.1
  obtain ⟨g0, g1⟩ := box25 (HK.out _ hq).2.2.1
  have hl1 := heap_lt (HK.out _ hq).2.1
  have hl2 := heap_lt (HK.out _ hq).2.2.1
  go_wp2_with fail
  refine (look_any _ t es HT.out (-7) tMark (by decide) ok_mark.1.2.1).mono ?_
  rintro e wX ⟨rfl, hbX⟩
  rw [HXX.out]
  simp only
  have hq := below_up (by simp) hq hbX
  have HT := Lib.hid (HT.out.below hbX)
  have HU := Lib.hid (HU.out.below hbX)
  clear hbX
  clear d0 d1 g0 g1 hl1 hl2
  obtain ⟨d0, d1⟩ := box25 (HK.out _ hq).2.1
  obtain ⟨g0, g1⟩ := box25 (HK.out _ hq).2.2.1
  have hl1 := heap_lt (HK.out _ hq).2.1
  have hl2 := heap_lt (HK.out _ hq).2.2.1
  go_wp2_with fail
  refine (look_any _ u es HU.out (-7) tMark (by decide) ok_mark.1.2.1).mono ?_
  rintro e wX ⟨rfl, hbX⟩
  rw [HXX.out]
  simp only
  have hq := below_up (by simp) hq hbX
  clear hbX
  clear d0 d1 g0 g1 hl1 hl2
  obtain ⟨d0, d1⟩ := box25 (HK.out _ hq).2.1
  obtain ⟨g0, g1⟩ := box25 (HK.out _ hq).2.2.1
  have hl1 := heap_lt (HK.out _ hq).2.1
  have hl2 := heap_lt (HK.out _ hq).2.2.1
  go_wp2_with fail
  refine (samePath_any _ _ _ l l sl sl (HKQ.out _ hq).1 (HK.out _ hq).2.2.2.1).mono ?_
  rintro e wX ⟨rfl, hbX⟩
  rw [sameP_rfl]
  have hq := below_up (by simp) hq hbX
  clear hbX d0 d1 g0 g1 hl1 hl2
  have k0 := rds_cell (HK.out _ hq).2.2.2.2.1 (i := n) (s := tMark) (by rw [List.getElem?_append_right (by rw [HNL.out]; exact Nat.le_refl _), HNL.out, Nat.sub_self]; rfl)
  have k1 := rds_cell (HK.out _ hq).2.2.2.2.1 (i := n + 1) (s := tMore) (by rw [List.getElem?_append_right (by rw [HNL.out]; omega), HNL.out, Nat.add_sub_cancel_left]; rfl)
  go_wp2_with fail
  refine (sameEdges_any _ _ _ es (HKQ.out _ hq).2 (HK.out _ hq).2.2.2.2.2.1).mono ?_
  rintro e wX ⟨rfl, hbX⟩
  have hq := below_up (by simp) hq hbX
  clear hbX k0 k1
  obtain ⟨k0, k2, kg⟩ := rde_cell (HK.out _ hq).2.2.2.2.2.2 (i := m) (e := eMark) (by rw [List.getElem?_append_right (by rw [HML.out]; exact Nat.le_refl _), HML.out, Nat.sub_self]; rfl)
  obtain ⟨k3, k5, _⟩ := rde_cell (HK.out _ hq).2.2.2.2.2.2 (i := m + 1) (e := eMore) (by rw [List.getElem?_append_right (by rw [HML.out]; omega), HML.out, Nat.add_sub_cancel_left]; rfl)
  go_wp2_with fail
  go_ret
  exact ⟨by simp, (HK.out _ hq).1⟩

theorem PathLent.walk (W : World) (v : Value) (ho : EdgesV W v) (u : Value) (hp : PathV W u) : Calls Tryd.prog 15 #[v, u] W fun e W' => e = .returned (.bool true) ∧ Below W.heap.size W W' := by
  obtain ⟨es, he, hl, hz⟩ := ho
  obtain ⟨u, l, b, rfl, hs, hpz⟩ := hp
  obtain ⟨A, c, rfl, r⟩ := hs.1
  obtain ⟨Ae, ce, rfl, re⟩ := he
  exact lent_any W Ae _ ce es A _ c l b ⟨Ae, ce, rfl, re⟩ hz hl hs hpz

end Go.Proofs.YtpombeiabgbpiaaDoor
