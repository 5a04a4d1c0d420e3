/-
The plain law of one more part: what Resolve answers of a path with one part more, and what it asks.
-/
import Derived.Test.YtpombeiabgbpiaaDoorLParents
import Derived.Test.YtpombeiabgbpiaaDoorWEarL
namespace Go.Proofs.YtpombeiabgbpiaaDoor
open Go.RowKit

/-- behind ".." there is a directory, if all but the last of the way are -/
theorem wk_dirs (lk : Int → ByteArray → Int × Bool) : ∀ (l : List ByteArray) (way : List (Int × Bool)), (∀ x ∈ way.dropLast, x.2 = true) →
    (wkF lk way (l ++ [dot2])).2 = 0 → (wkF lk way (l ++ [dot2])).1.2 = true
  | [], way, h, h0 => by
    rw [List.nil_append, wkF] at h0 ⊢
    split at h0
    · cases h0
    · rename_i hl
      rw [if_neg hl, if_neg (by decide), if_pos rfl, wkF]
      simp only
      rcases List.eq_nil_or_concat way with rfl | ⟨p, z, rfl⟩
      · simp at hl
      · rw [List.concat_eq_append] at *
        rw [List.getLastD_concat] at hl
        rw [List.dropLast_concat] at h
        rcases List.eq_nil_or_concat p with rfl | ⟨q, y, rfl⟩
        · simpa using hl
        · rw [List.concat_eq_append] at *
          rw [List.take_left' (by simp), List.getLastD_concat]
          exact h y (by simp)
  | s :: r, way, h, h0 => by
    rw [List.cons_append, wkF] at h0 ⊢
    split at h0
    · cases h0
    · rename_i hl
      rw [if_neg hl]
      have hall : ∀ x ∈ way, x.2 = true := by
        rcases List.eq_nil_or_concat way with rfl | ⟨p, z, rfl⟩
        · simp
        · rw [List.concat_eq_append] at *
          rw [List.getLastD_concat] at hl
          rw [List.dropLast_concat] at h
          intro x hx
          rcases List.mem_append.1 hx with hx | hx
          · exact h x hx
          · rw [List.mem_singleton.1 hx]; simpa using hl
      split at h0
      · rename_i h1
        rw [if_pos h1]
        exact wk_dirs lk r way h h0
      · rename_i h1
        rw [if_neg h1]
        split at h0
        · rename_i h2
          rw [if_pos h2]
          exact wk_dirs lk r _ (fun x hx => hall x (List.mem_of_mem_take ((List.dropLast_sublist _).subset hx))) h0
        · rename_i h2
          rw [if_neg h2]
          split at h0
          · cases h0
          · rename_i h3
            rw [if_neg h3]
            exact wk_dirs lk r _ (fun x hx => by rw [List.dropLast_concat] at hx; exact hall x hx) h0

/-- all that is asked is well formed -/
theorem wkA_ok {lk : Int → ByteArray → Int × Bool} (hlk : ∀ d s, (Lit.int .i64 (lk d s).1).wf = true) : ∀ (l : List ByteArray) (way : List (Int × Bool)), (∀ s ∈ l, s.size ≤ maxLen) → (∀ x ∈ way, (Lit.int .i64 x.1).wf = true) → ∀ q ∈ wkA lk way l, Ear.askOk q
  | [], way, _, _ => by simp [wkA]
  | s :: r, way, hs, hw => by
    have hr : ∀ s ∈ r, s.size ≤ maxLen := fun x hx => hs x (List.mem_cons_of_mem _ hx)
    have hl : (Lit.int .i64 (way.getLastD (0, false)).1).wf = true := by
      rcases List.eq_nil_or_concat way with rfl | ⟨p, z, rfl⟩
      · decide
      · rw [List.concat_eq_append, List.getLastD_concat]; exact hw z (by simp)
    rw [wkA]
    split
    · simp
    · split
      · exact wkA_ok hlk r way hr hw
      · split
        · exact wkA_ok hlk r _ hr (fun x hx => hw x (List.mem_of_mem_take hx))
        · split
          · intro q hq
            rw [List.mem_singleton.1 hq]
            exact ⟨hl, hs s (by simp)⟩
          · intro q hq
            rcases List.mem_cons.1 hq with rfl | hq
            · exact ⟨hl, hs s (by simp)⟩
            · refine wkA_ok hlk r _ hr (fun x hx => ?_) q hq
              rcases List.mem_append.1 hx with hx | hx
              · exact hw x hx
              · rw [List.mem_singleton.1 hx]; exact hlk _ _

theorem wkA_len (lk : Int → ByteArray → Int × Bool) : ∀ (l : List ByteArray) (way : List (Int × Bool)), (wkA lk way l).length ≤ l.length
  | [], way => by simp [wkA]
  | s :: r, way => by
    rw [wkA]
    split
    · simp
    · split
      · exact Nat.le_succ_of_le (wkA_len lk r way)
      · split
        · exact Nat.le_succ_of_le (wkA_len lk r _)
        · split
          · simp
          · have := wkA_len lk r (way ++ [lk (way.getLastD (0, false)).1 s])
            simp only [List.length_cons]; omega

/-- one part more -/
inductive OneMore (lk : Int → ByteArray → Int × Bool) (n : Int) (sub : Bool) (e : Int) (s : ByteArray) (m : Int) (is : Bool) (f : Int) (qs qs' : List (Int × ByteArray)) : Prop where
  | err : e ≠ 0 → f = e → m = 0 → is = false → qs' = qs → OneMore lk n sub e s m is f qs qs'
  | file : e = 0 → sub = false → f = 144 → m = 0 → is = false → qs' = qs → OneMore lk n sub e s m is f qs qs'
  | here : e = 0 → sub = true → s = dot1 → f = 0 → m = n → is = true → qs' = qs → OneMore lk n sub e s m is f qs qs'
  | up : e = 0 → sub = true → s = dot2 → f = 0 → is = true → qs' = qs → OneMore lk n sub e s m is f qs qs'
  | none : e = 0 → sub = true → s ≠ dot1 → s ≠ dot2 → (lk n s).1 < 1 → f = 143 → m = 0 → is = false → qs' = qs ++ [(n, s)] → OneMore lk n sub e s m is f qs qs'
  | name : e = 0 → sub = true → s ≠ dot1 → s ≠ dot2 → 1 ≤ (lk n s).1 → f = 0 → m = (lk n s).1 → is = (lk n s).2 → qs' = qs ++ [(n, s)] → OneMore lk n sub e s m is f qs qs'

theorem one_more (lk : Int → ByteArray → Int × Bool) (pre : List ByteArray) (s : ByteArray) :
    OneMore lk (resF lk pre false).1 (resF lk pre false).2.1 (resF lk pre false).2.2 s (resF lk (pre ++ [s]) false).1 (resF lk (pre ++ [s]) false).2.1 (resF lk (pre ++ [s]) false).2.2 (wkA lk rootW pre) (wkA lk rootW (pre ++ [s])) := by
  have hD := wk_dirs lk pre rootW (by simp [rootW])
  rcases wk_root lk pre with ⟨a, b, c, d, f⟩ | ⟨way, a, b, c, f⟩
  · have e1 : resF lk pre false = (0, false, (wkF lk rootW pre).2) := by rw [resF, if_pos a]
    have e2 : resF lk (pre ++ [s]) false = (0, false, (wkF lk rootW pre).2) := by rw [resF, b, if_pos a]
    rw [e1, e2]
    exact .err a rfl rfl rfl (f _)
  · obtain ⟨⟨z1, z2⟩, hz⟩ : ∃ z, way.getLastD (0, false) = z := ⟨_, rfl⟩
    rw [hz] at b
    have e1 : resF lk pre false = (z1, z2, 0) := by rw [resF, b]; simp
    have hr : wkF lk rootW (pre ++ [s]) = wkF lk way [s] := c [s]
    have ha : wkA lk rootW (pre ++ [s]) = wkA lk rootW pre ++ wkA lk way [s] := f [s]
    rw [wkF, hz] at hr
    rw [wkA, hz] at ha
    cases z2
    · rw [if_pos rfl] at hr ha
      have e2 : resF lk (pre ++ [s]) false = (0, false, 144) := by rw [resF, hr]; simp
      rw [e1, e2]
      exact .file rfl rfl rfl rfl rfl (by rw [ha, List.append_nil])
    · rw [if_neg (by simp)] at hr ha
      by_cases h1 : s = dot1
      · rw [if_pos h1] at hr ha
        rw [wkF, hz] at hr
        rw [wkA, List.append_nil] at ha
        have e2 : resF lk (pre ++ [s]) false = (z1, true, 0) := by rw [resF, hr]; simp
        rw [e1, e2]
        exact .here rfl rfl h1 rfl rfl rfl ha
      · rw [if_neg h1] at hr ha
        by_cases h2 : s = dot2
        · subst h2
          rw [if_pos rfl] at hr ha
          rw [wkF] at hr
          rw [wkA, List.append_nil] at ha
          have h0 : (wkF lk rootW (pre ++ [dot2])).2 = 0 := by rw [hr]
          have h3 := hD h0
          have e2 : resF lk (pre ++ [dot2]) false = ((wkF lk rootW (pre ++ [dot2])).1.1, true, 0) := by rw [resF, h0, h3]; simp
          rw [e1, e2]
          exact .up rfl rfl rfl rfl rfl ha
        · rw [if_neg h2] at hr ha
          by_cases hx : (lk z1 s).1 < 1
          · rw [if_pos hx] at hr ha
            have e2 : resF lk (pre ++ [s]) false = (0, false, 143) := by rw [resF, hr]; simp
            rw [e1, e2]
            exact .none rfl rfl h1 h2 hx rfl rfl rfl ha
          · rw [if_neg hx] at hr ha
            rw [wkF, List.getLastD_concat] at hr
            rw [wkA] at ha
            have e2 : resF lk (pre ++ [s]) false = ((lk z1 s).1, (lk z1 s).2, 0) := by rw [resF, hr]; simp
            rw [e1, e2]
            exact .name rfl rfl h1 h2 (by simp only; omega) rfl rfl rfl ha

/-- the answer for the whole path, by the answer for it without a slash -/
theorem res_slash (lk : Int → ByteArray → Int × Bool) (l : List ByteArray) (b : Bool) :
    resF lk l b = if (resF lk l false).2.2 ≠ 0 then (0, false, (resF lk l false).2.2) else if b = true ∧ (resF lk l false).2.1 = false then (0, false, 144) else ((resF lk l false).1, (resF lk l false).2.1, 0) := by
  by_cases h : (wkF lk rootW l).2 ≠ 0
  · have e1 : resF lk l false = (0, false, (wkF lk rootW l).2) := by rw [resF, if_pos h]
    rw [e1, resF, if_pos h, if_pos h]
  · have e1 : resF lk l false = ((wkF lk rootW l).1.1, (wkF lk rootW l).1.2, 0) := by rw [resF, if_neg h]; simp
    rw [e1, resF, if_neg h]
    simp

/-- what Parent asks, by what Resolve asks -/
theorem par_asks (lk : Int → ByteArray → Int × Bool) (l : List ByteArray) :
    ((parF lk l).2.2 = 145 ∧ parA lk l = []) ∨ ((parF lk l).2.2 = 0 ∧ ∃ q, wkA lk rootW l = parA lk l ++ [q]) ∨ ((parF lk l).2.2 ≠ 145 ∧ (parF lk l).2.2 ≠ 0 ∧ parA lk l = wkA lk rootW l) := by
  rcases List.eq_nil_or_concat l with rfl | ⟨pre, s, rfl⟩
  · exact .inl ⟨rfl, rfl⟩
  · rw [List.concat_eq_append]
    by_cases hs : s = dot1 ∨ s = dot2
    · exact .inl ⟨by rw [parF, endD_snoc, if_pos (by simpa using hs)], by rw [parA, endD_snoc, if_pos (by simpa using hs)]⟩
    · refine .inr ?_
      have hend : endD (pre ++ [s]) = false := by rw [endD_snoc]; simpa using hs
      have hp : parF lk (pre ++ [s]) = if (wkF lk rootW pre).2 ≠ 0 then (0, ByteArray.empty, (wkF lk rootW pre).2) else if (wkF lk rootW pre).1.2 = false then (0, ByteArray.empty, 144) else ((wkF lk rootW pre).1.1, s, 0) := by
        rw [parF, if_neg (by rw [hend]; decide), List.dropLast_concat, List.getLastD_concat]
      have hq : parA lk (pre ++ [s]) = wkA lk rootW pre := by rw [parA, if_neg (by rw [hend]; decide), List.dropLast_concat]
      rw [hp, hq]
      rcases wk_root lk pre with ⟨a, b, c, d, f⟩ | ⟨way, a, b, c, f⟩
      · rw [if_pos a]
        refine .inr ⟨?_, a, (f _).symm⟩
        rcases d with d | d <;> rw [d] <;> decide
      · obtain ⟨⟨z1, z2⟩, hz⟩ : ∃ z, way.getLastD (0, false) = z := ⟨_, rfl⟩
        rw [hz] at b
        rw [b]
        have ha : wkA lk rootW (pre ++ [s]) = wkA lk rootW pre ++ wkA lk way [s] := f [s]
        rw [wkA, hz] at ha
        cases z2
        · rw [if_pos rfl, List.append_nil] at ha
          refine .inr ?_
          rw [ha]
          simp
        · rw [if_neg (by simp), if_neg (fun h => hs (.inl h)), if_neg (fun h => hs (.inr h))] at ha
          refine .inl ⟨by simp, (z1, s), ?_⟩
          rw [ha]
          split <;> rfl

theorem RdE.take {w : World} {A : Option Addr} {n c : Nat} {l : List EdgeV} (h : RdE w (.slice A n c) l) (m : Nat) (hm : m ≤ l.length) : RdE w (.slice A m c) (l.take m) := by
  obtain ⟨A', c', e, h1, h2, h4, h3⟩ := h
  injection e with e1 e2 e3
  subst e1 e2 e3
  refine ⟨A, c, by rw [List.length_take, Nat.min_eq_left hm], by rw [List.length_take]; omega, h2, fun e he => h4 e (List.mem_of_mem_take he), fun h0 => ?_⟩
  rw [List.length_take] at h0
  obtain ⟨b, off, e, hb, hh⟩ := h3 (by omega)
  refine ⟨b, off, e, hb, fun i s hs => hh i s ?_⟩
  rw [List.getElem?_take] at hs
  split at hs
  · exact hs
  · cases hs

end Go.Proofs.YtpombeiabgbpiaaDoor
