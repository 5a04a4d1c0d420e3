/-
dots: does a path hold a dot?
-/
import Derived.Test.YtpombeiabgbpiaaDoorWClean
namespace Go.Proofs.YtpombeiabgbpiaaDoor
open Go.RowKit

set_option maxRecDepth 100000 in
set_option maxHeartbeats 4000000 in
theorem dots_any (w : World) (v : Value) (l : List ByteArray) (sl : Bool) (hr : RdS w v l) :
    Calls Tryd.prog 33 #[.agg #[v, .bool sl]] w fun e w' => e = .returned (.bool (l.any isD)) ∧ Below w.heap.size w w' := by
  obtain ⟨A, c, rfl, h1, h2, h3⟩ := hr
  have HR := Lib.hid h3
  have hcm : c ≤ 9223372036854775807 := maxLen_eq ▸ h2
  obtain ⟨n, hn⟩ : ∃ n, l.length = n := ⟨_, rfl⟩
  have HL := Lib.hid hn
  rw [hn] at h1 ⊢
  have HB0 := Lib.hid (show (w.alloc (.cells #[.slice A n c, .bool sl] 25)).heap[w.heap.size]? = some (.cells #[.slice A n c, .bool sl] 25 (0, 0)) ∧ Below w.heap.size w (w.alloc (.cells #[.slice A n c, .bool sl] 25)) from ⟨heap_alloc_new w _, (Below.refl _ _).alloc (Nat.le_refl _) _⟩)
  obtain ⟨S, hS⟩ : ∃ S, l.any isD = S := ⟨_, rfl⟩
  have HS := Lib.hid hS
  rw [hS]
  clear h2 h3 hn hS
  go_enter Tryd.func33, Tryd.ntmps33
  go_wp2_with fail
  go_loopw [3] (fun v3 wr => ∃ k : Nat, k ≤ n ∧ v3 = .int .i64 k ∧ Hid ((l.drop k).any isD = S) ∧ Hid (wr.heap[w.heap.size]? = some (.cells #[.slice A n c, .bool sl] 25 (0, 0)) ∧ Below w.heap.size w wr)) (fun v3 _ => n - (intOf v3).toNat)
  case atStart => exact ⟨0, by omega, rfl, HS, HB0⟩
  case round =>
    clear HB0 HS
    obtain ⟨k, hk, rfl, HT, HX⟩ := hrel
    have d0 := cell_of_row _ _ 0 _ _ _ HX.out.1
    simp only [List.getElem?_toArray, List.getElem?_cons_zero] at d0
    by_cases hlt : k < n
    · obtain ⟨g, off, rfl, hgw, hh⟩ := HR.out (by rw [HL.out]; omega)
      obtain ⟨s, hs⟩ : ∃ s, l[k]? = some s := ⟨_, List.getElem?_eq_getElem (by rw [HL.out]; exact hlt)⟩
      have e0 := cell_below HX.out.2 (hh k s hs)
      have hdr : l.drop k = s :: l.drop (k + 1) := by
        have := List.getElem?_eq_some_iff.1 hs
        rw [List.drop_eq_getElem_cons this.1, this.2]
      have hT := HT.out
      rw [hdr, List.any_cons] at hT
      clear hh hs hdr HT
      by_cases h1 : s = dot1
      · obtain rfl : S = true := by rw [← hT, h1]; rfl
        subst h1
        unfold dot1 at e0
        go_wp2_with fail
        go_ret
        exact ⟨rfl, HX.out.2⟩
      · by_cases h2 : s = dot2
        · obtain rfl : S = true := by rw [← hT, h2]; rfl
          subst h2
          unfold dot2 at e0
          go_wp2_with fail
          go_ret
          exact ⟨rfl, HX.out.2⟩
        · have q1 : (s.toList == [46]) = false := ne_lit h1
          have q2 : (s.toList == [46, 46]) = false := ne_lit h2
          rw [show isD s = false from by simp [isD, h1, h2], Bool.false_or] at hT
          have HT := Lib.hid hT
          clear hT
          go_wp2_with fail
          go_roundw
          case rel => exact ⟨k + 1, by omega, by go_num, HT, HX⟩
          case measure => simp [intOf]; omega
    · obtain rfl : k = n := by omega
      have hT := HT.out
      rw [List.drop_eq_nil_of_le (by rw [HL.out]; exact Nat.le_refl _)] at hT
      obtain rfl : S = false := hT.symm
      go_wp2_with fail
      go_ret
      exact ⟨rfl, HX.out.2⟩

/-! What cleaning does -/
theorem clF_plain : ∀ (l st : List ByteArray), l.any isD = false → clF st l = st ++ l
  | [], st, _ => by simp [clF]
  | s :: r, st, h => by
    rw [List.any_cons, Bool.or_eq_false_iff] at h
    have h1 : ¬ (s = dot1 ∨ s = dot2) := by simpa [isD] using h.1
    rw [clF, if_neg (fun h => h1 (.inr h.1)), if_neg (fun h => h1 h.symm), clF_plain r _ h.2]
    simp
theorem clF_dots : ∀ (l st : List ByteArray), st.any isD = false → (clF st l).any isD = false
  | [], st, h => h
  | s :: r, st, h => by
    rw [clF]
    split
    · refine clF_dots r _ ?_
      rw [List.any_eq_false] at h ⊢
      exact fun x hx => h x (List.dropLast_subset st hx)
    · split
      · exact clF_dots r st h
      · rename_i h1 h2
        refine clF_dots r _ ?_
        rw [List.any_append, h]
        have : ¬ (s = dot1 ∨ s = dot2) := fun h => h2 h.symm
        simp [isD, this]
theorem clF_len : ∀ (l st : List ByteArray), (clF st l).length ≤ st.length + l.length
  | [], st => by simp [clF]
  | s :: r, st => by
    rw [clF]
    split
    · have := clF_len r st.dropLast
      simp at this ⊢; omega
    · split
      · have := clF_len r st
        simp; omega
      · have := clF_len r (st ++ [s])
        simp at this ⊢; omega
theorem clF_mem : ∀ (l st : List ByteArray) (x : ByteArray), x ∈ clF st l → x ∈ st ∨ x ∈ l
  | [], st, x, h => .inl h
  | s :: r, st, x, h => by
    rw [clF] at h
    split at h
    · rcases clF_mem r _ x h with h | h
      · exact .inl (List.dropLast_subset st h)
      · exact .inr (List.mem_cons_of_mem _ h)
    · split at h
      · rcases clF_mem r _ x h with h | h
        · exact .inl h
        · exact .inr (List.mem_cons_of_mem _ h)
      · rcases clF_mem r _ x h with h | h
        · rcases List.mem_append.1 h with h | h
          · exact .inl h
          · rw [List.mem_singleton.1 h]; exact .inr (List.mem_cons_self ..)
        · exact .inr (List.mem_cons_of_mem _ h)

/-- parts of a way: each leads on from the one before -/
inductive WayOf (lk : Int → ByteArray → Int × Bool) : List ByteArray → List (Int × Bool) → Prop
  | root : WayOf lk [] rootW
  | push {st way s} (h : WayOf lk st way) (hs : isD s = false) (hd : (way.getLastD (0, false)).2 = true) (hx : ¬ (lk (way.getLastD (0, false)).1 s).1 < 1) : WayOf lk (st ++ [s]) (way ++ [lk (way.getLastD (0, false)).1 s])
theorem WayOf.len {lk : Int → ByteArray → Int × Bool} {st : List ByteArray} {way : List (Int × Bool)} (h : WayOf lk st way) : way.length = st.length + 1 := by
  induction h with
  | root => rfl
  | push _ _ _ _ ih => simp [ih]
theorem WayOf.fwd {lk : Int → ByteArray → Int × Bool} {st : List ByteArray} {way : List (Int × Bool)} (h : WayOf lk st way) : ∀ l, wkF lk rootW (st ++ l) = wkF lk way l := by
  induction h with
  | root => intro l; rfl
  | @push st way s _ hs hd hx ih =>
    intro l
    rw [List.append_assoc, ih, List.singleton_append]
    have hs' : ¬ (s = dot1 ∨ s = dot2) := by simpa [isD] using hs
    rw [wkF, if_neg (by rw [hd]; simp), if_neg (fun h => hs' (.inl h)), if_neg (fun h => hs' (.inr h)), if_neg hx]
theorem WayOf.pop {lk : Int → ByteArray → Int × Bool} {st : List ByteArray} {way : List (Int × Bool)} (h : WayOf lk st way) (h0 : st ≠ []) : WayOf lk st.dropLast (way.take (max 1 (way.length - 1))) := by
  cases h with
  | root => exact absurd rfl h0
  | @push st way s h hs hd hx =>
    have hl := h.len
    rw [List.dropLast_concat, List.length_append, List.length_singleton, Nat.add_sub_cancel, Nat.max_eq_right (by omega), List.take_left' rfl]
    exact h
theorem WayOf.pos {lk : Int → ByteArray → Int × Bool} {st : List ByteArray} {way : List (Int × Bool)} (h : WayOf lk st way) : 1 ≤ (way.getLastD (0, false)).1 := by
  cases h with
  | root => simp [rootW]
  | push h hs hd hx => rw [List.getLastD_concat]; omega
/-- where a path leads without an error the cleaned one leads too -/
theorem clean_way (lk : Int → ByteArray → Int × Bool) : ∀ (l st : List ByteArray) (way : List (Int × Bool)), WayOf lk st way → (wkF lk way l).2 = 0 → ∃ way', WayOf lk (clF st l) way' ∧ wkF lk way l = (way'.getLastD (0, false), 0) ∧ (isD (l.getLastD ByteArray.empty) = true → (way'.getLastD (0, false)).2 = true)
  | [], st, way, h, _ => ⟨way, h, rfl, fun h => by simp [isD, dot1, dot2] at h; rcases h with h | h <;> exact absurd h (by decide)⟩
  | s :: r, st, way, h, h0 => by
    have hge : ∀ r' : List ByteArray, (s :: r').getLastD ByteArray.empty = r'.getLastD s := fun r' => by cases r' <;> rfl
    rw [wkF] at h0 ⊢
    by_cases h1 : (way.getLastD (0, false)).2 = false
    · rw [if_pos h1] at h0; exact absurd h0 (by decide)
    · rw [if_neg h1] at h0 ⊢
      have h1' : (way.getLastD (0, false)).2 = true := by simpa using h1
      by_cases h2 : s = dot1
      · rw [if_pos h2] at h0 ⊢
        have hc : clF st (s :: r) = clF st r := by rw [clF, if_neg (fun h => by rw [h2] at h; exact absurd h.1 (by decide)), if_pos (.inr h2)]
        rw [hc]
        obtain ⟨way', a, b, c⟩ := clean_way lk r st way h h0
        refine ⟨way', a, b, fun hd => ?_⟩
        rcases List.eq_nil_or_concat r with rfl | ⟨q, z, rfl⟩
        · rw [wkF] at b
          rw [← (Prod.mk.inj b).1]; exact h1'
        · refine c ?_
          rw [hge] at hd
          simpa using hd
      · rw [if_neg h2] at h0 ⊢
        by_cases h3 : s = dot2
        · rw [if_pos h3] at h0 ⊢
          by_cases h4 : st = []
          · have hc : clF st (s :: r) = clF st r := by rw [clF, if_neg (fun h => h.2 h4), if_pos (.inl h3)]
            rw [hc]
            have hw : way.take (max 1 (way.length - 1)) = way := by
              have := h.len
              rw [h4] at this
              simp at this
              rw [this]
              exact List.take_of_length_le (by omega)
            rw [hw] at h0 ⊢
            obtain ⟨way', a, b, c⟩ := clean_way lk r st way h h0
            refine ⟨way', a, b, fun hd => ?_⟩
            rcases List.eq_nil_or_concat r with rfl | ⟨q, z, rfl⟩
            · rw [wkF] at b
              rw [← (Prod.mk.inj b).1]; exact h1'
            · refine c ?_
              rw [hge] at hd
              simpa using hd
          · have hc : clF st (s :: r) = clF st.dropLast r := by rw [clF, if_pos ⟨h3, h4⟩]
            rw [hc]
            obtain ⟨way', a, b, c⟩ := clean_way lk r st.dropLast _ (h.pop h4) h0
            refine ⟨way', a, b, fun hd => ?_⟩
            rcases List.eq_nil_or_concat r with rfl | ⟨q, z, rfl⟩
            · rw [wkF] at b
              rw [← (Prod.mk.inj b).1]
              cases h with
              | root => exact absurd rfl h4
              | @push st way s' h hs hd hx =>
                have hl := h.len
                rw [List.length_append, List.length_singleton, Nat.add_sub_cancel, Nat.max_eq_right (by omega), List.take_left' rfl]
                exact hd
            · refine c ?_
              rw [hge] at hd
              simpa using hd
        · rw [if_neg h3] at h0 ⊢
          by_cases h4 : (lk (way.getLastD (0, false)).1 s).1 < 1
          · rw [if_pos h4] at h0; exact absurd h0 (by decide)
          · rw [if_neg h4] at h0 ⊢
            have hc : clF st (s :: r) = clF (st ++ [s]) r := by rw [clF, if_neg (fun h => h3 h.1), if_neg (fun h => h.elim h3 h2)]
            rw [hc]
            have hsd : isD s = false := by simp [isD, h2, h3]
            obtain ⟨way', a, b, c⟩ := clean_way lk r _ _ (h.push hsd h1' h4) h0
            refine ⟨way', a, b, fun hd => ?_⟩
            rcases List.eq_nil_or_concat r with rfl | ⟨q, z, rfl⟩
            · rw [hge] at hd
              simp only [List.getLastD_nil] at hd
              rw [hsd] at hd; cases hd
            · refine c ?_
              rw [hge] at hd
              simpa using hd

end Go.Proofs.YtpombeiabgbpiaaDoor
