/-
path.Text: what it answers of any path. (Printed by gen_text.py.)
-/
import Derived.Test.YtpombeiabgbpiaaDoorWParse
import Derived.WalkMore
namespace Go.Proofs.YtpombeiabgbpiaaDoor
open Go.RowKit Go.Shelf

/-- a part that a text may have -/
def good (p : ByteArray) : Prop := p.size ≠ 0 ∧ p.size ≤ 28 ∧ 47 ∉ bys p ∧ 0 ∉ bys p
instance (p : ByteArray) : Decidable (good p) := by unfold good; infer_instance
def joinS (l : List ByteArray) : List UInt8 := l.flatMap fun p => 47 :: bys p
theorem joinS_snoc (l : List ByteArray) (p : ByteArray) : joinS (l ++ [p]) = joinS l ++ 47 :: bys p := by simp [joinS]
def room (b : Bool) : Nat := if b then 199 else 200
/-- the text of a path -/
def textOf (l : List ByteArray) (b : Bool) : ByteArray :=
  if l = [] then (if b then ByteArray.empty else ⟨#[47]⟩) else if (∀ p ∈ l, good p) ∧ (joinS l).length ≤ room b then ⟨(joinS l ++ if b then [47] else []).toArray⟩ else ByteArray.empty
theorem textOf_bad {l : List ByteArray} {b : Bool} (h0 : l ≠ []) {p : ByteArray} (hp : p ∈ l) (h : ¬ good p) : textOf l b = ByteArray.empty := by
  unfold textOf
  rw [if_neg h0, if_neg (fun hh => h (hh.1 p hp))]
theorem joinS_take (l : List ByteArray) (k : Nat) : (joinS (l.take k)).length ≤ (joinS l).length := by
  have e : joinS l = joinS (l.take k) ++ joinS (l.drop k) := by
    unfold joinS
    rw [← List.flatMap_append, List.take_append_drop]
  rw [e, List.length_append]
  omega
theorem textOf_long {l : List ByteArray} {b : Bool} (h0 : l ≠ []) {k : Nat} (h : room b < (joinS (l.take k)).length) : textOf l b = ByteArray.empty := by
  unfold textOf
  rw [if_neg h0, if_neg (fun hh => by have := joinS_take l k; omega)]
theorem textOf_good {l : List ByteArray} {b : Bool} (h0 : l ≠ []) (h1 : ∀ p ∈ l, good p) (h2 : (joinS l).length ≤ room b) : textOf l b = ⟨(joinS l ++ if b then [47] else []).toArray⟩ := by
  unfold textOf
  rw [if_neg h0, if_pos ⟨h1, h2⟩]
theorem isB_bel {B b : Nat} {bs : List Value} {w : World} (h : Lib.BuilderAt 71 5 B b (.pointer (some ⟨b, 0, none⟩)) bs w) : Lib.IsBuilder 71 5 B b bs w := Or.inr h
theorem ret_str {a b : ByteArray} (h : a = b) : Ending.returned (.string a) = .returned (.string b) := by rw [h]
theorem take_succ_get {α : Type} (l : List α) (k : Nat) (p : α) (h : l[k]? = some p) : l.take (k + 1) = l.take k ++ [p] := by
  obtain ⟨hk, rfl⟩ := List.getElem?_eq_some_iff.1 h
  rw [List.take_succ_eq_append_getElem hk]

/-- between two rounds -/
structure TxI (w W1 : World) (l : List ByteArray) (b : Bool) (k : Nat) (W : World) : Prop where
  bld : Lib.IsBuilder 71 5 (w.heap.size + 1) (w.heap.size + 1) (Lib.byteCells (joinS (l.take k))) W
  bel : Below (w.heap.size + 1) W1 W
  ok : ∀ p ∈ l.take k, good p
  len : (joinS (l.take k)).length ≤ room b
theorem bel_of {w W : World} {o : Obj} (h : Below (w.heap.size + 1) (w.alloc o) W) : Below w.heap.size w W :=
  ((Below.refl _ _).alloc (Nat.le_refl _) _).trans (h.mono (by omega))
theorem byte_cases (x : UInt8) : x = 47 ∨ x = 0 ∨ (((x.toNat : Int) == 47) = false ∧ ((x.toNat : Int) == 0) = false ∧ x ≠ 47 ∧ x ≠ 0) := by
  by_cases h1 : x = 47
  · exact .inl h1
  · by_cases h2 : x = 0
    · exact .inr (.inl h2)
    · refine .inr (.inr ⟨?_, ?_, h1, h2⟩)
      · rw [beq_eq_false_iff_ne]; intro e; exact h1 (UInt8.toNat_inj.1 (by show x.toNat = 47; omega))
      · rw [beq_eq_false_iff_ne]; intro e; exact h2 (UInt8.toNat_inj.1 (by show x.toNat = 0; omega))
theorem byte_mem (s : ByteArray) {j : Nat} (h : j < s.size) : s[j] ∈ bys s := by
  have hh : j < s.data.size := h
  show s.data[j] ∈ s.data.toList
  exact Array.mem_toList_iff.2 (Array.getElem_mem hh)
theorem byte_all (s : ByteArray) (x : UInt8) (h : ∀ j (hj : j < s.size), s[j] ≠ x) : x ∉ bys s := by
  intro hm
  obtain ⟨j, hj, e⟩ := List.mem_iff_getElem.1 hm
  rw [bys_length] at hj
  exact h j hj (by rw [← e]; rfl)

set_option maxRecDepth 100000 in
set_option maxHeartbeats 4000000 in
theorem text_no (w : World) (A : Option Addr) (c : Nat) (l : List ByteArray) (hlc : l.length ≤ c) (hcm : c ≤ maxLen) (h0 : l ≠ []) (bb off : Nat) (hA : A = some ⟨bb, off, none⟩) (hbw : bb < w.heap.size) (hcl : ∀ i s, l[i]? = some s → w.cell? ⟨bb, off + i, none⟩ = some (.string s)) :
    Calls Tryd.prog 20 #[.agg #[.slice A l.length c, .bool false]] w fun e w' => e = .returned (.string (textOf l false)) ∧ Below w.heap.size w w' := by
  subst hA
  have hl0 : 0 < l.length := List.length_pos_iff.2 h0
  have HCL := Lib.hid hcl
  have H0 := Lib.hid h0
  have hcm2 : c ≤ 9223372036854775807 := by simpa [maxLen] using hcm
  clear hcl hcm
  obtain ⟨n, hn⟩ : ∃ n, l.length = n := ⟨_, rfl⟩
  have HN := Lib.hid hn
  rw [hn] at hl0 hlc ⊢
  clear hn h0
  obtain ⟨T, hT⟩ : ∃ T, textOf l false = T := ⟨_, rfl⟩
  have HT := Lib.hid hT
  rw [hT]
  clear hT
  have hn0 : ((n : Int) == 0) = false := by rw [beq_eq_false_iff_ne]; omega
  go_enter Tryd.func20, Tryd.ntmps20
  go_wp2_with fail
  go_step3
  go_wp2_with fail
  go_step3
  go_wp2_with fail
  obtain ⟨W1, hW1⟩ : ∃ W1, w.alloc (.cells #[.slice (some ⟨bb, off, none⟩) n c, .bool false] 25) = W1 := ⟨_, rfl⟩
  have hz1 : W1.heap.size = w.heap.size + 1 := by rw [← hW1]; simp
  have HB1 : Hid (∀ {X : World}, Below (w.heap.size + 1) W1 X → Below w.heap.size w X) := fun h => by rw [← hW1] at h; exact bel_of h
  have HS0 : Hid (TxI w W1 l false 0 (W1.alloc (.cells #[.pointer none, .slice none 0 0] 71))) := by
    have := Lib.fresh_isBuilder 71 5 W1
    rw [hz1] at this
    exact ⟨this, (Below.refl _ _).alloc (by omega) _, fun _ h => by simp at h, by simp [joinS]⟩
  have HC1 : Hid (∀ {X : World}, Below (w.heap.size + 1) W1 X → X.cell? ⟨w.heap.size, 1, none⟩ = some (.bool false)) := fun {X} h => by
    have e0 : W1.heap[w.heap.size]? = some (.cells #[.slice (some ⟨bb, off, none⟩) n c, .bool false] 25 (0, 0)) := by rw [← hW1]; exact heap_alloc_new w _
    rw [cell_of_row _ _ _ _ _ _ ((h.block w.heap.size (by omega)).trans e0)]; rfl
  have HCL1 : Hid (∀ {X : World}, Below (w.heap.size + 1) W1 X → ∀ i s, l[i]? = some s → X.cell? ⟨bb, off + i, none⟩ = some (.string s)) := fun {X} h i s hs => (((HB1.out h).cell hbw)).trans (HCL.out i s hs)
  rw [hW1]
  clear hW1 HCL
  go_loopw [21] (fun v21 wr => ∃ k : Nat, k ≤ n ∧ v21 = .int .i64 k ∧ Hid (TxI w W1 l false k wr)) (fun v21 _ => n - (intOf v21).toNat)
  case atStart => exact ⟨0, by omega, rfl, HS0⟩
  case round =>
    clear HS0
    obtain ⟨k, hk, rfl, HX⟩ := hrel
    have hbs := HX.out.bel.size
    by_cases hlt : k < n
    · obtain ⟨p, hp⟩ : ∃ p, l[k]? = some p := ⟨_, List.getElem?_eq_getElem (by rw [HN.out]; exact hlt)⟩
      have d0 := HCL1.out HX.out.bel k p hp
      have HPM := Lib.hid (List.mem_of_getElem? hp)
      have HTS := Lib.hid (take_succ_get l k p hp)
      clear hp
      by_cases hs0 : p.size = 0
      · have he : p.toList.isEmpty = true := by rw [isE_size, hs0]; rfl
        have HE := Lib.hid (textOf_bad (b := false) H0.out HPM.out (fun h => h.1 hs0))
        clear hs0
        go_wp2_with fail
        rw [Exit.noGoto_ret]
        go_ret
        exact ⟨ret_str (HE.out.symm.trans HT.out), HB1.out HX.out.bel⟩
      · have he : p.toList.isEmpty = false := by rw [isE_size]; simp [hs0]
        by_cases hs1 : 28 < p.size
        · have HE := Lib.hid (textOf_bad (b := false) H0.out HPM.out (fun h => by have := h.2.1; omega))
          go_wp2_with fail
          rw [Exit.noGoto_ret]
          go_ret
          exact ⟨ret_str (HE.out.symm.trans HT.out), HB1.out HX.out.bel⟩
        · have hlen := HX.out.len
          have HW := Lib.hid (writeByte_any _ _ _ 47 wr HX.out.bld (by rw [Lib.byteCells_length]; unfold room at hlen; simp at hlen; omega) (by omega))
          go_wp2_with fail
          refine HW.out.mono ?_
          rintro e w2 ⟨rfl, hb2, hl2⟩
          have HBD := Lib.hid hb2
          have HL2 := Lib.hid (HX.out.bel.trans hl2)
          have hz2 := (HX.out.bel.trans hl2).size
          clear hb2 hl2 HW
          go_wp2_with fail
          go_loopw [35] (fun v35 wi => ∃ j : Nat, j ≤ p.size ∧ v35 = .int .i64 j ∧ Hid (∀ i (hi : i < p.size), i < j → p[i] ≠ 47 ∧ p[i] ≠ 0) ∧ wi = w2) (fun v35 _ => p.size - (intOf v35).toNat)
          case atStart => exact ⟨0, by omega, rfl, fun _ _ h => by omega, rfl⟩
          case round =>
            obtain ⟨j, hj, rfl, HJ, rfl⟩ := hrel
            by_cases hjl : j < p.size
            · rcases byte_cases p[j] with hx | hx | ⟨hx1, hx2, hx3, hx4⟩
              · have hb1 : ((p[j].toNat : Int) == 47) = true := by rw [hx]; rfl
                have HE := Lib.hid (textOf_bad (b := false) H0.out HPM.out (fun h => h.2.2.1 (by rw [← hx]; exact byte_mem p hjl)))
                go_wp2_with (go_at_call 38; refine (isSlash_any _ _).mono ?_; rintro e w' ⟨rfl, rfl⟩)
                refine (reset_any _ _ _ _ (isB_bel HBD.out)).mono ?_
                rintro e w3 ⟨rfl, hb3, hl3⟩
                have HB3 := Lib.hid hb3
                have HL3 := Lib.hid (HL2.out.trans hl3)
                have hz3 := HL3.out.size
                clear hb3 hl3
                go_wp2_with fail
                refine (Tryd.Builder_Len _ _ _ _ HB3.out).mono ?_
                rintro e w' ⟨rfl, rfl⟩
                go_wp2_with fail
                refine (Tryd.Builder_String_empty _ _ _ HB3.out (by omega)).mono ?_
                rintro e w4 ⟨rfl, hl4⟩
                have HL4 := Lib.hid (HL3.out.trans hl4)
                clear hl4
                go_wp2_with fail
                rw [Exit.noGoto_ret]
                go_ret
                exact ⟨ret_str (HE.out.symm.trans HT.out), HB1.out HL4.out⟩
              · have hb1 : ((p[j].toNat : Int) == 47) = false := by rw [hx]; rfl
                have hb2 : ((p[j].toNat : Int) == 0) = true := by rw [hx]; rfl
                have HE := Lib.hid (textOf_bad (b := false) H0.out HPM.out (fun h => h.2.2.2 (by rw [← hx]; exact byte_mem p hjl)))
                go_wp2_with (go_at_call 38; refine (isSlash_any _ _).mono ?_; rintro e w' ⟨rfl, rfl⟩)
                refine (reset_any _ _ _ _ (isB_bel HBD.out)).mono ?_
                rintro e w3 ⟨rfl, hb3, hl3⟩
                have HB3 := Lib.hid hb3
                have HL3 := Lib.hid (HL2.out.trans hl3)
                have hz3 := HL3.out.size
                clear hb3 hl3
                go_wp2_with fail
                refine (Tryd.Builder_Len _ _ _ _ HB3.out).mono ?_
                rintro e w' ⟨rfl, rfl⟩
                go_wp2_with fail
                refine (Tryd.Builder_String_empty _ _ _ HB3.out (by omega)).mono ?_
                rintro e w4 ⟨rfl, hl4⟩
                have HL4 := Lib.hid (HL3.out.trans hl4)
                clear hl4
                go_wp2_with fail
                rw [Exit.noGoto_ret]
                go_ret
                exact ⟨ret_str (HE.out.symm.trans HT.out), HB1.out HL4.out⟩
              · go_wp2_with (go_at_call 38; refine (isSlash_any _ _).mono ?_; rintro e w' ⟨rfl, rfl⟩)
                go_roundw
                case rel => exact ⟨j + 1, by omega, by go_num, fun i hi hij => (by
                  rcases Nat.lt_or_ge i j with h | h
                  · exact HJ.out i hi h
                  · obtain rfl : i = j := by omega
                    exact ⟨hx3, hx4⟩), trivial⟩
                case measure => simp [intOf]; omega
            · obtain rfl : p.size = j := by omega
              have HG := Lib.hid (show good p from ⟨hs0, by omega, byte_all p 47 (fun i hi => (HJ.out i hi hi).1), byte_all p 0 (fun i hi => (HJ.out i hi hi).2)⟩)
              have HW := Lib.hid (writeString_any _ _ _ p wr (isB_bel HBD.out) (by rw [List.length_append, Lib.byteCells_length]; unfold room at hlen; simp only [List.length_cons, List.length_nil]; split at hlen <;> omega) (by omega))
              have hbe : Lib.byteCells (joinS (l.take k)) ++ [Value.int .u8 47] ++ Lib.strCells p = Lib.byteCells (joinS (l.take (k + 1))) := by
                rw [HTS.out, joinS_snoc, Lib.byteCells_append, Lib.strCells_eq, List.append_assoc]; rfl
              rw [hbe] at HW
              clear hbe HJ
              go_wp2_with fail
              refine HW.out.mono ?_
              rintro e w3 ⟨rfl, hb3, hl3⟩
              have HLn := Lib.hid (Tryd.Builder_Len _ _ _ _ (isB_bel hb3))
              rw [Lib.byteCells_length] at HLn
              have HB3 := Lib.hid hb3
              have HL3 := Lib.hid (HL2.out.trans hl3)
              clear hb3 hl3 HW
              go_wp2_with fail
              refine HLn.out.mono ?_
              rintro e w' ⟨rfl, rfl⟩
              clear HLn
              by_cases hov : room false < (joinS (l.take (k + 1))).length
              · have HE := Lib.hid (textOf_long (b := false) H0.out hov)
                have hov2 : (200 : Int) < ((joinS (l.take (k + 1))).length : Nat) := by unfold room at hov; simp at hov; omega
                go_wp2_with fail
                rw [Exit.noGoto_ret]
                go_ret
                exact ⟨ret_str (HE.out.symm.trans HT.out), HB1.out HL3.out⟩
              · have hov2 : ¬ (200 : Int) < ((joinS (l.take (k + 1))).length : Nat) := by unfold room at hov; simp at hov; omega
                have HT3 : Hid (TxI w W1 l false (k + 1) w') := ⟨isB_bel HB3.out, HL3.out, fun y hy => by
                  rw [HTS.out] at hy
                  rcases List.mem_append.1 hy with h | h
                  · exact HX.out.ok y h
                  · rw [List.mem_singleton.1 h]; exact HG.out, by omega⟩
                go_wp2_with fail
                go_roundw
                case rel => exact ⟨k + 1, by omega, by go_num, HT3⟩
                case measure => simp [intOf]; omega
    · obtain rfl : n = k := by omega
      have hl : l.take n = l := List.take_of_length_le (by rw [HN.out]; exact Nat.le_refl _)
      have hX := HX.out
      have HB := Lib.hid hX.bld
      have HE := Lib.hid (textOf_good (b := false) H0.out (by rw [← hl]; exact hX.ok) (by rw [← hl]; exact hX.len))
      have hlen := hX.len
      rw [hl] at HB hlen
      have hpos : 0 < (joinS l).length := by
        cases l with
        | nil => exact (H0.out rfl).elim
        | cons a l => simp [joinS]
      have c1 := HC1.out hX.bel
      have HLn := Lib.hid (Tryd.Builder_Len _ _ _ _ HB.out)
      rw [Lib.byteCells_length] at HLn
      have HBL := Lib.hid hX.bel
      clear hX hl
      go_wp2_with fail
      refine HLn.out.mono ?_
      rintro e w' ⟨rfl, rfl⟩
      clear HLn
      go_wp2_with fail
      refine (Tryd.Builder_String_any _ _ _ _ HB.out (by omega)).mono ?_
      rintro e w4 ⟨rfl, hl4⟩
      have HL4 := Lib.hid (HBL.out.trans hl4)
      clear hl4
      go_wp2_with fail
      rw [Exit.noGoto_ret]
      go_ret
      exact ⟨ret_str (by rw [← HT.out, HE.out]; simp), HB1.out HL4.out⟩

set_option maxRecDepth 100000 in
set_option maxHeartbeats 4000000 in
theorem text_yes (w : World) (A : Option Addr) (c : Nat) (l : List ByteArray) (hlc : l.length ≤ c) (hcm : c ≤ maxLen) (h0 : l ≠ []) (bb off : Nat) (hA : A = some ⟨bb, off, none⟩) (hbw : bb < w.heap.size) (hcl : ∀ i s, l[i]? = some s → w.cell? ⟨bb, off + i, none⟩ = some (.string s)) :
    Calls Tryd.prog 20 #[.agg #[.slice A l.length c, .bool true]] w fun e w' => e = .returned (.string (textOf l true)) ∧ Below w.heap.size w w' := by
  subst hA
  have hl0 : 0 < l.length := List.length_pos_iff.2 h0
  have HCL := Lib.hid hcl
  have H0 := Lib.hid h0
  have hcm2 : c ≤ 9223372036854775807 := by simpa [maxLen] using hcm
  clear hcl hcm
  obtain ⟨n, hn⟩ : ∃ n, l.length = n := ⟨_, rfl⟩
  have HN := Lib.hid hn
  rw [hn] at hl0 hlc ⊢
  clear hn h0
  obtain ⟨T, hT⟩ : ∃ T, textOf l true = T := ⟨_, rfl⟩
  have HT := Lib.hid hT
  rw [hT]
  clear hT
  have hn0 : ((n : Int) == 0) = false := by rw [beq_eq_false_iff_ne]; omega
  go_enter Tryd.func20, Tryd.ntmps20
  go_wp2_with fail
  go_step3
  go_wp2_with fail
  go_step3
  go_wp2_with fail
  obtain ⟨W1, hW1⟩ : ∃ W1, w.alloc (.cells #[.slice (some ⟨bb, off, none⟩) n c, .bool true] 25) = W1 := ⟨_, rfl⟩
  have hz1 : W1.heap.size = w.heap.size + 1 := by rw [← hW1]; simp
  have HB1 : Hid (∀ {X : World}, Below (w.heap.size + 1) W1 X → Below w.heap.size w X) := fun h => by rw [← hW1] at h; exact bel_of h
  have HS0 : Hid (TxI w W1 l true 0 (W1.alloc (.cells #[.pointer none, .slice none 0 0] 71))) := by
    have := Lib.fresh_isBuilder 71 5 W1
    rw [hz1] at this
    exact ⟨this, (Below.refl _ _).alloc (by omega) _, fun _ h => by simp at h, by simp [joinS]⟩
  have HC1 : Hid (∀ {X : World}, Below (w.heap.size + 1) W1 X → X.cell? ⟨w.heap.size, 1, none⟩ = some (.bool true)) := fun {X} h => by
    have e0 : W1.heap[w.heap.size]? = some (.cells #[.slice (some ⟨bb, off, none⟩) n c, .bool true] 25 (0, 0)) := by rw [← hW1]; exact heap_alloc_new w _
    rw [cell_of_row _ _ _ _ _ _ ((h.block w.heap.size (by omega)).trans e0)]; rfl
  have HCL1 : Hid (∀ {X : World}, Below (w.heap.size + 1) W1 X → ∀ i s, l[i]? = some s → X.cell? ⟨bb, off + i, none⟩ = some (.string s)) := fun {X} h i s hs => (((HB1.out h).cell hbw)).trans (HCL.out i s hs)
  rw [hW1]
  clear hW1 HCL
  go_loopw [21] (fun v21 wr => ∃ k : Nat, k ≤ n ∧ v21 = .int .i64 k ∧ Hid (TxI w W1 l true k wr)) (fun v21 _ => n - (intOf v21).toNat)
  case atStart => exact ⟨0, by omega, rfl, HS0⟩
  case round =>
    clear HS0
    obtain ⟨k, hk, rfl, HX⟩ := hrel
    have hbs := HX.out.bel.size
    by_cases hlt : k < n
    · obtain ⟨p, hp⟩ : ∃ p, l[k]? = some p := ⟨_, List.getElem?_eq_getElem (by rw [HN.out]; exact hlt)⟩
      have d0 := HCL1.out HX.out.bel k p hp
      have HPM := Lib.hid (List.mem_of_getElem? hp)
      have HTS := Lib.hid (take_succ_get l k p hp)
      clear hp
      by_cases hs0 : p.size = 0
      · have he : p.toList.isEmpty = true := by rw [isE_size, hs0]; rfl
        have HE := Lib.hid (textOf_bad (b := true) H0.out HPM.out (fun h => h.1 hs0))
        clear hs0
        go_wp2_with fail
        rw [Exit.noGoto_ret]
        go_ret
        exact ⟨ret_str (HE.out.symm.trans HT.out), HB1.out HX.out.bel⟩
      · have he : p.toList.isEmpty = false := by rw [isE_size]; simp [hs0]
        by_cases hs1 : 28 < p.size
        · have HE := Lib.hid (textOf_bad (b := true) H0.out HPM.out (fun h => by have := h.2.1; omega))
          go_wp2_with fail
          rw [Exit.noGoto_ret]
          go_ret
          exact ⟨ret_str (HE.out.symm.trans HT.out), HB1.out HX.out.bel⟩
        · have hlen := HX.out.len
          have HW := Lib.hid (writeByte_any _ _ _ 47 wr HX.out.bld (by rw [Lib.byteCells_length]; unfold room at hlen; simp at hlen; omega) (by omega))
          go_wp2_with fail
          refine HW.out.mono ?_
          rintro e w2 ⟨rfl, hb2, hl2⟩
          have HBD := Lib.hid hb2
          have HL2 := Lib.hid (HX.out.bel.trans hl2)
          have hz2 := (HX.out.bel.trans hl2).size
          clear hb2 hl2 HW
          go_wp2_with fail
          go_loopw [35] (fun v35 wi => ∃ j : Nat, j ≤ p.size ∧ v35 = .int .i64 j ∧ Hid (∀ i (hi : i < p.size), i < j → p[i] ≠ 47 ∧ p[i] ≠ 0) ∧ wi = w2) (fun v35 _ => p.size - (intOf v35).toNat)
          case atStart => exact ⟨0, by omega, rfl, fun _ _ h => by omega, rfl⟩
          case round =>
            obtain ⟨j, hj, rfl, HJ, rfl⟩ := hrel
            by_cases hjl : j < p.size
            · rcases byte_cases p[j] with hx | hx | ⟨hx1, hx2, hx3, hx4⟩
              · have hb1 : ((p[j].toNat : Int) == 47) = true := by rw [hx]; rfl
                have HE := Lib.hid (textOf_bad (b := true) H0.out HPM.out (fun h => h.2.2.1 (by rw [← hx]; exact byte_mem p hjl)))
                go_wp2_with (go_at_call 38; refine (isSlash_any _ _).mono ?_; rintro e w' ⟨rfl, rfl⟩)
                refine (reset_any _ _ _ _ (isB_bel HBD.out)).mono ?_
                rintro e w3 ⟨rfl, hb3, hl3⟩
                have HB3 := Lib.hid hb3
                have HL3 := Lib.hid (HL2.out.trans hl3)
                have hz3 := HL3.out.size
                clear hb3 hl3
                go_wp2_with fail
                refine (Tryd.Builder_Len _ _ _ _ HB3.out).mono ?_
                rintro e w' ⟨rfl, rfl⟩
                go_wp2_with fail
                refine (Tryd.Builder_String_empty _ _ _ HB3.out (by omega)).mono ?_
                rintro e w4 ⟨rfl, hl4⟩
                have HL4 := Lib.hid (HL3.out.trans hl4)
                clear hl4
                go_wp2_with fail
                rw [Exit.noGoto_ret]
                go_ret
                exact ⟨ret_str (HE.out.symm.trans HT.out), HB1.out HL4.out⟩
              · have hb1 : ((p[j].toNat : Int) == 47) = false := by rw [hx]; rfl
                have hb2 : ((p[j].toNat : Int) == 0) = true := by rw [hx]; rfl
                have HE := Lib.hid (textOf_bad (b := true) H0.out HPM.out (fun h => h.2.2.2 (by rw [← hx]; exact byte_mem p hjl)))
                go_wp2_with (go_at_call 38; refine (isSlash_any _ _).mono ?_; rintro e w' ⟨rfl, rfl⟩)
                refine (reset_any _ _ _ _ (isB_bel HBD.out)).mono ?_
                rintro e w3 ⟨rfl, hb3, hl3⟩
                have HB3 := Lib.hid hb3
                have HL3 := Lib.hid (HL2.out.trans hl3)
                have hz3 := HL3.out.size
                clear hb3 hl3
                go_wp2_with fail
                refine (Tryd.Builder_Len _ _ _ _ HB3.out).mono ?_
                rintro e w' ⟨rfl, rfl⟩
                go_wp2_with fail
                refine (Tryd.Builder_String_empty _ _ _ HB3.out (by omega)).mono ?_
                rintro e w4 ⟨rfl, hl4⟩
                have HL4 := Lib.hid (HL3.out.trans hl4)
                clear hl4
                go_wp2_with fail
                rw [Exit.noGoto_ret]
                go_ret
                exact ⟨ret_str (HE.out.symm.trans HT.out), HB1.out HL4.out⟩
              · go_wp2_with (go_at_call 38; refine (isSlash_any _ _).mono ?_; rintro e w' ⟨rfl, rfl⟩)
                go_roundw
                case rel => exact ⟨j + 1, by omega, by go_num, fun i hi hij => (by
                  rcases Nat.lt_or_ge i j with h | h
                  · exact HJ.out i hi h
                  · obtain rfl : i = j := by omega
                    exact ⟨hx3, hx4⟩), trivial⟩
                case measure => simp [intOf]; omega
            · obtain rfl : p.size = j := by omega
              have HG := Lib.hid (show good p from ⟨hs0, by omega, byte_all p 47 (fun i hi => (HJ.out i hi hi).1), byte_all p 0 (fun i hi => (HJ.out i hi hi).2)⟩)
              have HW := Lib.hid (writeString_any _ _ _ p wr (isB_bel HBD.out) (by rw [List.length_append, Lib.byteCells_length]; unfold room at hlen; simp only [List.length_cons, List.length_nil]; split at hlen <;> omega) (by omega))
              have hbe : Lib.byteCells (joinS (l.take k)) ++ [Value.int .u8 47] ++ Lib.strCells p = Lib.byteCells (joinS (l.take (k + 1))) := by
                rw [HTS.out, joinS_snoc, Lib.byteCells_append, Lib.strCells_eq, List.append_assoc]; rfl
              rw [hbe] at HW
              clear hbe HJ
              go_wp2_with fail
              refine HW.out.mono ?_
              rintro e w3 ⟨rfl, hb3, hl3⟩
              have HLn := Lib.hid (Tryd.Builder_Len _ _ _ _ (isB_bel hb3))
              rw [Lib.byteCells_length] at HLn
              have HB3 := Lib.hid hb3
              have HL3 := Lib.hid (HL2.out.trans hl3)
              clear hb3 hl3 HW
              go_wp2_with fail
              refine HLn.out.mono ?_
              rintro e w' ⟨rfl, rfl⟩
              clear HLn
              by_cases hov : room true < (joinS (l.take (k + 1))).length
              · have HE := Lib.hid (textOf_long (b := true) H0.out hov)
                have hov2 : (199 : Int) < ((joinS (l.take (k + 1))).length : Nat) := by unfold room at hov; simp at hov; omega
                go_wp2_with fail
                rw [Exit.noGoto_ret]
                go_ret
                exact ⟨ret_str (HE.out.symm.trans HT.out), HB1.out HL3.out⟩
              · have hov2 : ¬ (199 : Int) < ((joinS (l.take (k + 1))).length : Nat) := by unfold room at hov; simp at hov; omega
                have HT3 : Hid (TxI w W1 l true (k + 1) w') := ⟨isB_bel HB3.out, HL3.out, fun y hy => by
                  rw [HTS.out] at hy
                  rcases List.mem_append.1 hy with h | h
                  · exact HX.out.ok y h
                  · rw [List.mem_singleton.1 h]; exact HG.out, by omega⟩
                go_wp2_with fail
                go_roundw
                case rel => exact ⟨k + 1, by omega, by go_num, HT3⟩
                case measure => simp [intOf]; omega
    · obtain rfl : n = k := by omega
      have hl : l.take n = l := List.take_of_length_le (by rw [HN.out]; exact Nat.le_refl _)
      have hX := HX.out
      have HB := Lib.hid hX.bld
      have HE := Lib.hid (textOf_good (b := true) H0.out (by rw [← hl]; exact hX.ok) (by rw [← hl]; exact hX.len))
      have hlen := hX.len
      rw [hl] at HB hlen
      have hpos : 0 < (joinS l).length := by
        cases l with
        | nil => exact (H0.out rfl).elim
        | cons a l => simp [joinS]
      have c1 := HC1.out hX.bel
      have HLn := Lib.hid (Tryd.Builder_Len _ _ _ _ HB.out)
      rw [Lib.byteCells_length] at HLn
      have HBL := Lib.hid hX.bel
      clear hX hl
      go_wp2_with fail
      refine HLn.out.mono ?_
      rintro e w' ⟨rfl, rfl⟩
      clear HLn
      go_wp2_with fail
      refine (writeByte_any _ _ _ 47 _ HB.out (by rw [Lib.byteCells_length]; unfold room at hlen; simp at hlen; omega) (by omega)).mono ?_
      rintro e w5 ⟨rfl, hb5, hl5⟩
      have hbe : Lib.byteCells (joinS l) ++ [Value.int .u8 47] = Lib.byteCells (joinS l ++ [47]) := by rw [Lib.byteCells_append]; rfl
      rw [hbe] at hb5
      replace HB := Lib.hid (isB_bel hb5)
      replace HBL := Lib.hid (HBL.out.trans hl5)
      have hz5 := HBL.out.size
      clear hbe hb5 hl5
      go_wp2_with fail
      refine (Tryd.Builder_String_any _ _ _ _ HB.out (by omega)).mono ?_
      rintro e w4 ⟨rfl, hl4⟩
      have HL4 := Lib.hid (HBL.out.trans hl4)
      clear hl4
      go_wp2_with fail
      rw [Exit.noGoto_ret]
      go_ret
      exact ⟨ret_str (by rw [← HT.out, HE.out]; simp), HB1.out HL4.out⟩

set_option maxHeartbeats 1000000 in
theorem text_any (w : World) (v : Value) (l : List ByteArray) (b : Bool) (hr : RdS w v l) :
    Calls Tryd.prog 20 #[.agg #[v, .bool b]] w fun e w' => e = .returned (.string (textOf l b)) ∧ Below w.heap.size w w' := by
  obtain ⟨A, c, rfl, hlc, hcm, hh⟩ := hr
  rcases Nat.eq_zero_or_pos l.length with hl | hl
  · obtain rfl := List.length_eq_zero_iff.1 hl
    clear hh hl hlc hcm
    cases b
    · go_enter Tryd.func20, Tryd.ntmps20
      go_wp2_with fail
      go_step3
      go_wp2_with fail
      rw [Exit.noGoto_ret]
      go_ret
      exact ⟨rfl, (Below.refl _ _).alloc (Nat.le_refl _) _⟩
    · go_enter Tryd.func20, Tryd.ntmps20
      go_wp2_with fail
      go_step3
      go_wp2_with fail
      rw [Exit.noGoto_ret]
      go_ret
      exact ⟨rfl, (Below.refl _ _).alloc (Nat.le_refl _) _⟩
  · obtain ⟨bb, off, hA, hb, hc⟩ := hh hl
    have h0 := List.length_pos_iff.1 hl
    cases b
    · exact text_no w A c l hlc hcm h0 bb off hA hb hc
    · exact text_yes w A c l hlc hcm h0 bb off hA hb hc

end Go.Proofs.YtpombeiabgbpiaaDoor
