/-
PathCleans: a cleaned path has no dots, is no longer, and is cleaned to itself; a path without dots is what it was; wherever a path leads, the cleaned one leads too.
-/
import Derived.Test.YtpombeiabgbpiaaDoorLParents
import Derived.Test.YtpombeiabgbpiaaDoorWDots
import Derived.Test.YtpombeiabgbpiaaDoorWSame
namespace Go.Proofs.YtpombeiabgbpiaaDoor
open Go.RowKit

theorem last_mem {l : List ByteArray} (h : l ≠ []) : l.getLastD ByteArray.empty ∈ l := by
  rcases List.eq_nil_or_concat l with rfl | ⟨q, z, rfl⟩
  · exact absurd rfl h
  · rw [List.concat_eq_append, List.getLastD_concat]; simp
theorem last_plain {l : List ByteArray} (h : l.any isD = false) : isD (l.getLastD ByteArray.empty) = false := by
  by_cases h0 : l = []
  · subst h0; decide +kernel
  · rw [List.any_eq_false] at h
    simpa using h _ (last_mem h0)
theorem clS_again (l : List ByteArray) (sl : Bool) : clS (clF [] l) (clS l sl) = clS l sl := by
  have hp := clF_dots l [] rfl
  have e : clF [] (clF [] l) = clF [] l := by rw [clF_plain _ _ hp, List.nil_append]
  have h1 : clS (clF [] l) (clS l sl) = (!(clF [] l).isEmpty && clS l sl) := by
    rw [clS, e, last_plain hp, Bool.or_false]
  rw [h1]
  unfold clS
  cases (clF [] l).isEmpty <;> rfl
theorem clS_same (l : List ByteArray) (sl : Bool) (h : l.any isD = false) (h0 : l ≠ []) : clS l sl = sl := by
  unfold clS
  rw [clF_plain _ _ h, List.nil_append, last_plain h, Bool.or_false]
  cases l with
  | nil => exact absurd rfl h0
  | cons a l => rfl
theorem res_err {lk : Int → ByteArray → Int × Bool} {l : List ByteArray} {sl : Bool} (h : (resF lk l sl).2.2 ≠ 0) : ∃ er, (er = 143 ∨ er = 144) ∧ resF lk l sl = (0, false, er) := by
  rcases wk_root lk l with ⟨a, _, _, d, _⟩ | ⟨way, _, b, _, _⟩
  · exact ⟨_, d, by rw [resF, if_pos a]⟩
  · rw [resF, b] at h ⊢
    rw [if_neg (by simp)] at h ⊢
    split at h
    · rename_i hh
      exact ⟨144, .inr rfl, if_pos hh⟩
    · exact absurd rfl h
theorem cleans_res {lk : Int → ByteArray → Int × Bool} {l : List ByteArray} {sl sub : Bool} {n : Int} (h : resF lk l sl = (n, sub, 0)) : resF lk (clF [] l) (clS l sl) = (n, sub, 0) ∧ 1 ≤ n := by
  by_cases h0 : (wkF lk rootW l).2 = 0
  · obtain ⟨way, a, b, c⟩ := clean_way lk l [] rootW .root h0
    have hf := a.fwd []
    rw [List.append_nil, wkF] at hf
    rw [resF, b] at h
    rw [if_neg (by simp)] at h
    simp only at h
    by_cases hs : sl = true ∧ (way.getLastD (0, false)).2 = false
    · rw [if_pos hs] at h
      injection h with _ h
      injection h with _ h
      cases h
    · rw [if_neg hs] at h
      injection h with h1 h
      injection h with h2 _
      refine ⟨?_, by rw [← h1]; exact a.pos⟩
      rw [resF, hf, if_neg (by simp)]
      simp only
      rw [if_neg, h1, h2]
      rintro ⟨k1, k2⟩
      unfold clS at k1
      rw [Bool.and_eq_true, Bool.or_eq_true] at k1
      rcases k1.2 with k | k
      · exact hs ⟨k, k2⟩
      · rw [c k] at k2; cases k2
  · rw [resF, if_pos h0] at h
    injection h with _ h
    injection h with _ h
    exact absurd h h0

/-- with a second path in a variable of its own -/
structure CnS (t b b6 : Nat) (es : List EdgeV) (u u6 : Value) (l C : List ByteArray) (sl cs : Bool) (W : World) : Prop where
  lw : LwS t b es u l sl W
  box : W.heap[b6]? = some (.cells #[u6, .bool cs] 25 (0, 0))
  rd : RdS W u6 C
theorem CnS.below {t b b6 : Nat} {es : List EdgeV} {u u6 : Value} {l C : List ByteArray} {sl cs : Bool} {W W' : World} (h : CnS t b b6 es u u6 l C sl cs W) (hb : Below W.heap.size W W') : CnS t b b6 es u u6 l C sl cs W' :=
  ⟨h.lw.below hb, (hb.block _ (heap_lt h.box)).trans h.box, h.rd.below hb⟩
theorem CnS.cells {t b b6 : Nat} {es : List EdgeV} {u u6 : Value} {l C : List ByteArray} {sl cs : Bool} {W : World} (h : CnS t b b6 es u u6 l C sl cs W) :
    W.cell? ⟨b, 0, none⟩ = some u ∧ W.cell? ⟨b, 1, none⟩ = some (.bool sl) ∧ W.cell? ⟨b6, 0, none⟩ = some u6 ∧ W.cell? ⟨b6, 1, none⟩ = some (.bool cs) :=
  ⟨h.lw.c0, h.lw.c1, by rw [cell_of_row _ _ _ _ _ _ h.box]; rfl, by rw [cell_of_row _ _ _ _ _ _ h.box]; rfl⟩

theorem below_lift' {n : Nat} {a b c : World} (hn : n ≤ a.heap.size) (h : Below n a b) (k : Below b.heap.size b c) : Below n a c :=
  ⟨k.os.trans h.os, k.tape.trans h.tape, k.output.trans h.output, Nat.le_trans h.size k.size, fun x hx => (k.block x (Nat.lt_of_lt_of_le hx (Nat.le_trans hn h.size))).trans (h.block x hx)⟩

set_option maxRecDepth 100000 in
set_option maxHeartbeats 8000000 in
theorem cleans_any (W : World) (v : Value) (es : List EdgeV) (A : Option Addr) (n c : Nat) (l : List ByteArray) (sl : Bool) (he : RdE W v es) (hs : StrsV W (.slice A n c) l) :
    Calls Tryd.prog 13 #[v, .agg #[.slice A n c, .bool sl]] W fun e W' => e = .returned (.bool true) ∧ Below W.heap.size W W' := by
  have hn : n = l.length := by obtain ⟨_, _, e, _⟩ := hs.1; injection e
  have hlen := hs.2.2
  have HLN := Lib.hid hn.symm
  rw [← hn] at hlen
  have hb1 : Below W.heap.size W (W.alloc (.cells #[.slice A n c, .bool sl] 25)) := (Below.refl _ _).alloc (Nat.le_refl _) _
  have HN := Lib.hid (newTable_any _ v es (he.below hb1))
  have HB1 := Lib.hid hb1
  have HO := Lib.hid he
  have HS := Lib.hid hs
  have HL1 : Hid (n + 1 ≤ 8796093022208) := Lib.hid (by omega)
  have HN1 := Lib.hid hs.2.1.max
  have hcl := clF_len l []
  rw [List.length_nil, Nat.zero_add, ← hn] at hcl
  clear hn
  have HN2 : Hid (∀ s ∈ clF [] l, s.size ≤ maxLen) := Lib.hid (fun s h => HN1.out s ((clF_mem l [] s h).resolve_left (by simp)))
  have hp := clF_dots l [] rfl
  have HCC : Hid (clF [] (clF [] l) = clF [] l) := Lib.hid (by rw [clF_plain _ _ hp, List.nil_append])
  have HCP := Lib.hid hp
  have HCS := Lib.hid (clS_again l sl)
  have HC0 : Hid (clF [] l = [] → clS l sl = false) := Lib.hid (fun h => by unfold clS; rw [h]; rfl)
  have HRS : Hid (∀ n sub, resF (lookT es) l sl = (n, sub, 0) → resF (lookT es) (clF [] l) (clS l sl) = (n, sub, 0) ∧ 1 ≤ n) := Lib.hid (fun n sub h => cleans_res h)
  have HSM : Hid (l.any isD = false → l ≠ [] → clF [] l = l ∧ clS l sl = sl) := Lib.hid (fun h h0 => ⟨by rw [clF_plain _ _ h, List.nil_append], clS_same l sl h h0⟩)
  clear hb1 he hs hp
  obtain ⟨C, hC⟩ : ∃ C, clF [] l = C := ⟨_, rfl⟩
  obtain ⟨cs, hcs⟩ : ∃ S, clS l sl = S := ⟨_, rfl⟩
  have HCL := Lib.hid hC
  have HCSL := Lib.hid hcs
  rw [hC] at hcl HN2 HCC HCP HCS HC0 HRS HSM
  rw [hcs] at HCS HC0 HRS HSM
  clear hC hcs
  go_enter Tryd.func13, Tryd.ntmps13
  go_wp2_with fail
  refine HN.out.mono ?_
  rintro e w1 ⟨t, rfl, ht, htw, hb1⟩
  obtain ⟨_, _, _, _, _, ho, _⟩ := HO.out
  have HL := Lib.hid (show LwS t W.heap.size es (.slice A n c) l sl w1 from ⟨ht, (hb1.block _ (by simp)).trans (heap_alloc_new W _), (HS.out.1.below HB1.out).below hb1⟩)
  have HOK := Lib.hid ho
  have HB := Lib.hid (below_lift HB1.out hb1)
  clear ht hb1 htw ho HN HO HS HB1
  go_wp2_with fail
  refine (first_any w1).mono ?_
  rintro e w2 ⟨rfl, hb2⟩
  have HL2 := Lib.hid (HL.out.below hb2)
  have HB2 := Lib.hid (below_lift HB.out hb2)
  have c0 := HL2.out.c0
  have c1 := HL2.out.c1
  clear hb2 HL HB
  go_wp2_with fail
  refine (clean_any w2 _ l sl HL2.out.rd (by rw [HLN.out]; omega)).mono ?_
  rintro e w3 ⟨u6, rfl, hr3, hz3, _, hb3⟩
  rw [HCL.out] at hr3
  rw [HCSL.out]
  obtain ⟨A6, c6, rfl, q1, q2, q3⟩ := hr3
  obtain ⟨m, hm⟩ : ∃ m, C.length = m := ⟨_, rfl⟩
  have hr3 : RdS w3 (.slice A6 m c6) C := ⟨_, _, by rw [hm], q1, q2, q3⟩
  have HCM := Lib.hid hm
  rw [hm] at q1 hcl ⊢
  clear hm
  have hcm6 : c6 ≤ 9223372036854775807 := maxLen_eq ▸ q2
  have hq4 : Below w3.heap.size w3 (w3.alloc (.cells #[.slice A6 m c6, .bool cs] 25)) := (Below.refl _ _).alloc (Nat.le_refl _) _
  have HCN : Hid (∀ W', Below (w3.heap.size + 1) (w3.alloc (.cells #[.slice A6 m c6, .bool cs] 25)) W' → CnS t W.heap.size w3.heap.size es (.slice A n c) (.slice A6 m c6) l C sl cs W') := Lib.hid (fun W' hb =>
    CnS.below ⟨(HL2.out.below hb3).below hq4, heap_alloc_new w3 _, hr3.below hq4⟩ (by simpa using hb))
  have HB4 : Hid (∀ W', Below (w3.heap.size + 1) (w3.alloc (.cells #[.slice A6 m c6, .bool cs] 25)) W' → Below W.heap.size W W') := Lib.hid (fun W' hb =>
    below_lift (below_lift (below_lift HB2.out hb3) hq4) (by simpa using hb))
  clear hb3 hz3 q1 q2 q3 hr3 hq4 HL2 HB2 c0 c1
  have hq : Below (w3.heap.size + 1) (w3.alloc (.cells #[.slice A6 m c6, .bool cs] 25)) (w3.alloc (.cells #[.slice A6 m c6, .bool cs] 25)).drew := (Below.refl _ _).drew
  obtain ⟨e0, e1, e2, e3⟩ := (HCN.out _ hq).cells
  have hlc : ((n : Int) < (m : Int)) = False := by simp; omega
  have HDD : l.any isD = true ∨ (l.any isD = false ∧ (0 < n) = False) ∨ (l.any isD = false ∧ (0 < n) = True ∧ sameP C cs l sl = true) := by
    by_cases hd : l.any isD = true
    · exact .inl hd
    · have hd : l.any isD = false := by simpa using hd
      by_cases hl : l = []
      · have := HLN.out
        rw [hl] at this
        exact .inr (.inl ⟨hd, by simp at this ⊢; omega⟩)
      · obtain ⟨h1, h2⟩ := HSM.out hd hl
        have := List.length_pos_iff.2 hl
        have := HLN.out
        exact .inr (.inr ⟨hd, by simp; omega, by rw [h1, h2]; exact sameP_rfl _ _⟩)
  have HDD := Lib.hid HDD
  have hC1 : (((m : Int) == 0) = true ∧ cs = false) ∨ ((m : Int) == 0) = false := by
    by_cases hC0 : C = []
    · refine .inl ⟨?_, HC0.out hC0⟩
      have := HCM.out
      rw [hC0] at this
      rw [← this]; rfl
    · refine .inr ?_
      rw [beq_eq_false_iff_ne]
      have := List.length_pos_iff.2 hC0
      have := HCM.out
      omega
  rcases hC1 with ⟨hC1, rfl⟩ | hC1
  focus
    go_wp2_with fail
    first
      | go_region_held (fun W' => Below (w3.heap.size + 1) (w3.alloc (.cells #[.slice A6 m c6, .bool false] 25)) W' ∧ W'.cell? ⟨W.heap.size, 0, none⟩ = some (.slice A n c) ∧ W'.cell? ⟨W.heap.size, 1, none⟩ = some (.bool sl) ∧ W'.cell? ⟨w3.heap.size, 0, none⟩ = some (.slice A6 m c6) ∧ W'.cell? ⟨w3.heap.size, 1, none⟩ = some (.bool false)) (exact ⟨hq, e0, e1, e2, e3⟩)
          (first
            | (go_at_call 33; refine (dots_any _ _ C false (HCN.out _ hq).rd).mono ?_; rintro e wX ⟨rfl, hbX⟩; rw [HCP.out]; have hq := below_lift' (by simp) hq hbX; obtain ⟨e0, e1, e2, e3⟩ := (HCN.out _ hq).cells)
            | (go_at_call 32; refine (clean_any _ _ C false (HCN.out _ hq).rd (by rw [HCM.out]; omega)).mono ?_; rintro e wY ⟨u8, rfl, hr8, _, _, hbY⟩; rw [HCC.out] at hr8; rw [HCS.out]; have hq := below_lift' (by simp) hq hbY; obtain ⟨e0, e1, e2, e3⟩ := (HCN.out _ hq).cells)
            | (go_at_call 21; refine (samePath_any _ _ _ C C false false hr8 (HCN.out _ hq).rd).mono ?_; rintro e wZ ⟨rfl, hbZ⟩; rw [sameP_rfl]; have hq := below_lift' (by simp) hq hbZ; obtain ⟨e0, e1, e2, e3⟩ := (HCN.out _ hq).cells))
      | fail
  rotate_left
  focus
    go_wp2_with fail
    refine wp_region_held_drew (S := fun W' => Below (w3.heap.size + 1) (w3.alloc (.cells #[.slice A6 m c6, .bool cs] 25)) W' ∧ W'.cell? ⟨W.heap.size, 0, none⟩ = some (.slice A n c) ∧ W'.cell? ⟨W.heap.size, 1, none⟩ = some (.bool sl) ∧ W'.cell? ⟨w3.heap.size, 0, none⟩ = some (.slice A6 m c6) ∧ W'.cell? ⟨w3.heap.size, 1, none⟩ = some (.bool cs)) (by kernel_rfl) ⟨hq, e0, e1, e2, e3⟩ (fun hHeld => ?_)
    refine takeD (i := 0) (v := .agg #[.slice A6 m c6, .bool cs]) 23 rfl rfl (by kernel_rfl) (by kernel_rfl) (by kernel_rfl) (fun _ _ _ h => h) (Or.inl ⟨by rfl, fun W hW => by obtain ⟨_, k0, k1, k2, k3⟩ := hW; go_simp⟩) hHeld ?_
    simp only [Act.put, List.setIfInBounds_toArray, List.set_cons_zero, List.set_cons_succ]
    refine wpAnyH_ready (rs := [1]) (by kernel_rfl) (by simp) (AllReadyH.cons rfl (fun K hK => ?_) AllReadyH.nil)
    go_simp
    go_wp2_with (go_at_call 33; refine (dots_any _ _ C cs (HCN.out _ hq).rd).mono ?_; rintro e wX ⟨rfl, hbX⟩; rw [HCP.out]; have hq := below_lift' (by simp) hq hbX; obtain ⟨e0, e1, e2, e3⟩ := (HCN.out _ hq).cells)
    refine hK.out _ _ ⟨hq, e0, e1, e2, e3⟩ (fun hHeld => ?_)
    clear hK K
    refine takeD (i := 2) (v := .bool false) 25 rfl rfl (by kernel_rfl) (by kernel_rfl) (by kernel_rfl) (fun _ _ _ h => h) (Or.inl ⟨by rfl, fun W hW => by obtain ⟨_, k0, k1, k2, k3⟩ := hW; go_simp⟩) hHeld ?_
    simp only [Act.put, List.setIfInBounds_toArray, List.set_cons_zero, List.set_cons_succ]
    refine takeD (i := 3) (v := .pointer (some ⟨w3.heap.size, 0, none⟩)) 26 rfl rfl (by kernel_rfl) (by kernel_rfl) (by kernel_rfl) (fun _ _ _ h => h) (Or.inl ⟨by rfl, fun W hW => by obtain ⟨_, k0, k1, k2, k3⟩ := hW; go_simp⟩) hHeld ?_
    simp only [Act.put, List.setIfInBounds_toArray, List.set_cons_zero, List.set_cons_succ]
    refine takeD (i := 4) (v := .slice A6 m c6) 27 rfl rfl (by kernel_rfl) (by kernel_rfl) (by kernel_rfl) (fun _ _ _ h => h) (Or.inl ⟨by rfl, fun W hW => by obtain ⟨_, k0, k1, k2, k3⟩ := hW; go_simp⟩) hHeld ?_
    simp only [Act.put, List.setIfInBounds_toArray, List.set_cons_zero, List.set_cons_succ]
    refine takeD (i := 5) (v := .int .i64 (m : Int)) 28 rfl rfl (by kernel_rfl) (by kernel_rfl) (by kernel_rfl) (fun _ _ _ h => h) (Or.inl ⟨by rfl, fun W hW => by obtain ⟨_, k0, k1, k2, k3⟩ := hW; go_simp⟩) hHeld ?_
    simp only [Act.put, List.setIfInBounds_toArray, List.set_cons_zero, List.set_cons_succ]
    refine takeD (i := 6) (v := .pointer (some ⟨W.heap.size, 0, none⟩)) 29 rfl rfl (by kernel_rfl) (by kernel_rfl) (by kernel_rfl) (fun _ _ _ h => h) (Or.inl ⟨by rfl, fun W hW => by obtain ⟨_, k0, k1, k2, k3⟩ := hW; go_simp⟩) hHeld ?_
    simp only [Act.put, List.setIfInBounds_toArray, List.set_cons_zero, List.set_cons_succ]
    refine takeD (i := 7) (v := .slice A n c) 30 rfl rfl (by kernel_rfl) (by kernel_rfl) (by kernel_rfl) (fun _ _ _ h => h) (Or.inl ⟨by rfl, fun W hW => by obtain ⟨_, k0, k1, k2, k3⟩ := hW; go_simp⟩) hHeld ?_
    simp only [Act.put, List.setIfInBounds_toArray, List.set_cons_zero, List.set_cons_succ]
    refine takeD (i := 8) (v := .int .i64 (n : Int)) 31 rfl rfl (by kernel_rfl) (by kernel_rfl) (by kernel_rfl) (fun _ _ _ h => h) (Or.inl ⟨by rfl, fun W hW => by obtain ⟨_, k0, k1, k2, k3⟩ := hW; go_simp⟩) hHeld ?_
    simp only [Act.put, List.setIfInBounds_toArray, List.set_cons_zero, List.set_cons_succ]
    refine takeD (i := 9) (v := .bool false) 32 rfl rfl (by kernel_rfl) (by kernel_rfl) (by kernel_rfl) (fun _ _ _ h => h) (Or.inl ⟨by rfl, fun W hW => by obtain ⟨_, k0, k1, k2, k3⟩ := hW; go_simp⟩) hHeld ?_
    simp only [Act.put, List.setIfInBounds_toArray, List.set_cons_zero, List.set_cons_succ]
    refine takeD (i := 10) (v := .bool false) 33 rfl rfl (by kernel_rfl) (by kernel_rfl) (by kernel_rfl) (fun _ _ _ h => h) (Or.inl ⟨by rfl, fun W hW => by obtain ⟨_, k0, k1, k2, k3⟩ := hW; go_simp⟩) hHeld ?_
    simp only [Act.put, List.setIfInBounds_toArray, List.set_cons_zero, List.set_cons_succ]
    refine takeD (i := 11) (v := .bool false) 34 rfl rfl (by kernel_rfl) (by kernel_rfl) (by kernel_rfl) (fun _ _ _ h => h) (Or.inl ⟨by rfl, fun W hW => by obtain ⟨_, k0, k1, k2, k3⟩ := hW; go_simp⟩) hHeld ?_
    simp only [Act.put, List.setIfInBounds_toArray, List.set_cons_zero, List.set_cons_succ]
    refine takeD (i := 12) (v := .agg #[.slice A6 m c6, .bool cs]) 35 rfl rfl (by kernel_rfl) (by kernel_rfl) (by kernel_rfl) (fun _ _ _ h => h) (Or.inl ⟨by rfl, fun W hW => by obtain ⟨_, k0, k1, k2, k3⟩ := hW; go_simp⟩) hHeld ?_
    simp only [Act.put, List.setIfInBounds_toArray, List.set_cons_zero, List.set_cons_succ]
    refine takeD (i := 14) (v := .agg #[.slice A6 m c6, .bool cs]) 37 rfl rfl (by kernel_rfl) (by kernel_rfl) (by kernel_rfl) (fun _ _ _ h => h) (Or.inl ⟨by rfl, fun W hW => by obtain ⟨_, k0, k1, k2, k3⟩ := hW; go_simp⟩) hHeld ?_
    simp only [Act.put, List.setIfInBounds_toArray, List.set_cons_zero, List.set_cons_succ]
    refine wpAnyH_ready (rs := [13]) (by kernel_rfl) (by simp) (AllReadyH.cons rfl (fun K hK => ?_) AllReadyH.nil)
    go_simp
    go_wp2_with (go_at_call 32; refine (clean_any _ _ C cs (HCN.out _ hq).rd (by rw [HCM.out]; omega)).mono ?_; rintro e wY ⟨u8, rfl, hr8, _, _, hbY⟩; rw [HCC.out] at hr8; rw [HCS.out]; have hq := below_lift' (by simp) hq hbY; obtain ⟨e0, e1, e2, e3⟩ := (HCN.out _ hq).cells)
    refine hK.out _ _ ⟨hq, e0, e1, e2, e3⟩ (fun hHeld => ?_)
    clear hK K
    refine wpAnyH_ready (rs := [15]) (by kernel_rfl) (by simp) (AllReadyH.cons rfl (fun K hK => ?_) AllReadyH.nil)
    go_simp
    go_wp2_with (go_at_call 21; refine (samePath_any _ _ _ C C cs cs hr8 (HCN.out _ hq).rd).mono ?_; rintro e wZ ⟨rfl, hbZ⟩; rw [sameP_rfl]; have hq := below_lift' (by simp) hq hbZ; obtain ⟨e0, e1, e2, e3⟩ := (HCN.out _ hq).cells)
    refine hK.out _ _ ⟨hq, e0, e1, e2, e3⟩ (fun hHeld => ?_)
    clear hK K
    refine takeD (i := 16) (v := .bool false) 39 rfl rfl (by kernel_rfl) (by kernel_rfl) (by kernel_rfl) (fun _ _ _ h => h) (Or.inl ⟨by rfl, fun W hW => by obtain ⟨_, k0, k1, k2, k3⟩ := hW; go_simp⟩) hHeld ?_
    simp only [Act.put, List.setIfInBounds_toArray, List.set_cons_zero, List.set_cons_succ]
    refine takeD (i := 17) (v := .bool false) 40 rfl rfl (by kernel_rfl) (by kernel_rfl) (by kernel_rfl) (fun _ _ _ h => h) (Or.inl ⟨by rfl, fun W hW => by obtain ⟨_, k0, k1, k2, k3⟩ := hW; go_simp⟩) hHeld ?_
    simp only [Act.put, List.setIfInBounds_toArray, List.set_cons_zero, List.set_cons_succ]
    refine takeD (i := 18) (v := .bool false) 41 rfl rfl (by kernel_rfl) (by kernel_rfl) (by kernel_rfl) (fun _ _ _ h => h) (Or.inl ⟨by rfl, fun W hW => by obtain ⟨_, k0, k1, k2, k3⟩ := hW; go_simp⟩) hHeld ?_
    simp only [Act.put, List.setIfInBounds_toArray, List.set_cons_zero, List.set_cons_succ]
    refine takeD (i := 19) (v := .pointer (some ⟨w3.heap.size, 0, none⟩)) 42 rfl rfl (by kernel_rfl) (by kernel_rfl) (by kernel_rfl) (fun _ _ _ h => h) (Or.inl ⟨by rfl, fun W hW => by obtain ⟨_, k0, k1, k2, k3⟩ := hW; go_simp⟩) hHeld ?_
    simp only [Act.put, List.setIfInBounds_toArray, List.set_cons_zero, List.set_cons_succ]
    refine takeD (i := 20) (v := .slice A6 m c6) 43 rfl rfl (by kernel_rfl) (by kernel_rfl) (by kernel_rfl) (fun _ _ _ h => h) (Or.inl ⟨by rfl, fun W hW => by obtain ⟨_, k0, k1, k2, k3⟩ := hW; go_simp⟩) hHeld ?_
    simp only [Act.put, List.setIfInBounds_toArray, List.set_cons_zero, List.set_cons_succ]
    refine takeD (i := 21) (v := .int .i64 (m : Int)) 44 rfl rfl (by kernel_rfl) (by kernel_rfl) (by kernel_rfl) (fun _ _ _ h => h) (Or.inl ⟨by rfl, fun W hW => by obtain ⟨_, k0, k1, k2, k3⟩ := hW; go_simp⟩) hHeld ?_
    simp only [Act.put, List.setIfInBounds_toArray, List.set_cons_zero, List.set_cons_succ]
    refine takeD (i := 22) (v := .bool false) 45 rfl rfl (by kernel_rfl) (by kernel_rfl) (by kernel_rfl) (fun _ _ _ h => h) (Or.inl ⟨by rfl, fun W hW => by obtain ⟨_, k0, k1, k2, k3⟩ := hW; go_simp⟩) hHeld ?_
    simp only [Act.put, List.setIfInBounds_toArray, List.set_cons_zero, List.set_cons_succ]
    refine takeD (i := 23) (v := .bool false) 46 rfl rfl (by kernel_rfl) (by kernel_rfl) (by kernel_rfl) (fun _ _ _ h => h) (Or.inl ⟨by rfl, fun W hW => by obtain ⟨_, k0, k1, k2, k3⟩ := hW; go_simp⟩) hHeld ?_
    simp only [Act.put, List.setIfInBounds_toArray, List.set_cons_zero, List.set_cons_succ]
    refine takeD (i := 24) (v := undef) 47 rfl rfl (by kernel_rfl) (by kernel_rfl) (by kernel_rfl) (fun _ _ _ h => h) (Or.inr ⟨by rfl, rfl⟩) hHeld ?_
    simp only [Act.put, List.setIfInBounds_toArray, List.set_cons_zero, List.set_cons_succ]
    refine takeD (i := 25) (v := undef) 48 rfl rfl (by kernel_rfl) (by kernel_rfl) (by kernel_rfl) (fun _ _ _ h => h) (Or.inr ⟨by rfl, rfl⟩) hHeld ?_
    simp only [Act.put, List.setIfInBounds_toArray, List.set_cons_zero, List.set_cons_succ]
    refine takeD (i := 26) (v := .bool false) 49 rfl rfl (by kernel_rfl) (by kernel_rfl) (by kernel_rfl) (fun _ _ _ h => h) (Or.inl ⟨by rfl, fun W hW => by obtain ⟨_, k0, k1, k2, k3⟩ := hW; go_simp⟩) hHeld ?_
    simp only [Act.put, List.setIfInBounds_toArray, List.set_cons_zero, List.set_cons_succ]
    refine takeD (i := 27) (v := .bool false) 50 rfl rfl (by kernel_rfl) (by kernel_rfl) (by kernel_rfl) (fun _ _ _ h => h) (Or.inl ⟨by rfl, fun W hW => by obtain ⟨_, k0, k1, k2, k3⟩ := hW; go_simp⟩) hHeld ?_
    simp only [Act.put, List.setIfInBounds_toArray, List.set_cons_zero, List.set_cons_succ]
    refine wpAnyH_done (by kernel_rfl) ?_ _
    go_wp2_with fail
  all_goals
    clear hr8 hC1 hlc
    rcases HDD.out with hd | ⟨hd, hn0⟩ | ⟨hd, hn0, hsp⟩
    all_goals
      go_wp2_with (go_at_call 33; refine (dots_any _ _ l sl (HCN.out _ hq).lw.rd).mono ?_; rintro e wX ⟨rfl, hbX⟩; rw [hd]; have hq := below_lift' (by simp) hq hbX; obtain ⟨e0, e1, e2, e3⟩ := (HCN.out _ hq).cells)
    rotate_left 2
    focus
      refine (samePath_any _ _ _ C l _ sl (HCN.out _ hq).rd (HCN.out _ hq).lw.rd).mono ?_
      rintro e wX ⟨rfl, hbX⟩
      rw [hsp]
      have hq := below_lift' (by simp) hq hbX
      obtain ⟨e0, e1, e2, e3⟩ := (HCN.out _ hq).cells
      go_wp2_with fail
    all_goals
      have hrs := (HCN.out _ hq).lw.resolve HOK.out (by rw [HLN.out]; exact HL1.out) HN1.out
      have HRE := Lib.hid (@res_err (lookT es) l sl)
      have HRC := Lib.hid HRS.out
      obtain ⟨R, hR⟩ : ∃ R, resF (lookT es) l sl = R := ⟨_, rfl⟩
      rw [hR] at hrs HRE HRC
      clear hR
      obtain ⟨r1, r2, r3⟩ := R
      have HRQ := Lib.hid hrs
      clear hrs
      refine HRQ.out.mono ?_
      rintro e wB ⟨rfl, _, hbB⟩
      have hq := below_lift' (by simp) hq hbB
      obtain ⟨e0, e1, e2, e3⟩ := (HCN.out _ hq).cells
      by_cases hr3 : r3 = 0
      · subst hr3
        obtain ⟨hc, h1⟩ := HRC.out r1 r2 rfl
        go_wp2_with fail
        refine (resolve_tab _ t es (HCN.out _ hq).lw.tab HOK.out _ C _ (HCN.out _ hq).rd (by rw [HCM.out]; have := HL1.out; omega) HN2.out).mono ?_
        rintro e wD ⟨rfl, hbD⟩
        rw [hc]
        have hq := below_lift' (by simp) hq hbD
        obtain ⟨e0, e1, e2, e3⟩ := (HCN.out _ hq).cells
        go_wp2_with fail
        go_ret
        exact ⟨by simp, HB4.out _ hq⟩
      · obtain ⟨er, her, hR⟩ := HRE.out hr3
        injection hR with k1 hR
        injection hR with k2 k3
        subst k1 k2 k3
        rcases her with rfl | rfl
        · go_wp2_with fail
          go_ret
          exact ⟨rfl, HB4.out _ hq⟩
        · go_wp2_with fail
          go_ret
          exact ⟨rfl, HB4.out _ hq⟩

theorem PathCleans.walk (W : World) (v : Value) (ho : EdgesV W v) (u : Value) (hp : PathV W u) : Calls Tryd.prog 13 #[v, u] W fun e W' => e = .returned (.bool true) ∧ Below W.heap.size W W' := by
  obtain ⟨es, he, _⟩ := ho
  obtain ⟨u, l, b, rfl, hl, _⟩ := hp
  obtain ⟨A, c, rfl, _⟩ := hl.1
  exact cleans_any W v es A _ c l b he hl

end Go.Proofs.YtpombeiabgbpiaaDoor
