/-
PathBack: what is read is told by a text that is no longer, and that is read as the same path; and any path that has a text is what that text is read as.
-/
import Derived.Test.YtpombeiabgbpiaaDoorWPlain
import Derived.Test.YtpombeiabgbpiaaDoorWOpen
import Derived.Deep.CutRange
import Derived.Deep.CutBlock
namespace Go.Proofs.YtpombeiabgbpiaaDoor
open Go.RowKit

theorem slash_text : errOf ⟨#[47]⟩ = 0 ∧ partsOf ⟨#[47]⟩ = [] ∧ slashOf ⟨#[47]⟩ = false := by
  have hp : partsOf ⟨#[47]⟩ = [] := parts_eq (by simp [pt])
  refine ⟨err_ok.2 ⟨by decide, by simp [bys], by simp [bys], by simp [pt]⟩, hp, ?_⟩
  unfold slashOf
  rw [hp]; rfl
/-- what is read, told, and read again -/
theorem back_text {s : ByteArray} (h : errOf s = 0) : ∃ u, textOf (partsOf s) (slashOf s) = u ∧ errOf u = 0 ∧ partsOf u = partsOf s ∧ slashOf u = slashOf s ∧ 0 < u.size ∧ u.size ≤ s.size := by
  obtain ⟨g1, g2, g3, g4⟩ := parse_good h
  refine ⟨_, rfl, ?_⟩
  by_cases h0 : partsOf s = []
  · have hs : slashOf s = false := by unfold slashOf; rw [h0]; rfl
    rw [h0, hs]
    have e : textOf [] false = ⟨#[47]⟩ := rfl
    rw [e]
    obtain ⟨a, b, c⟩ := slash_text
    exact ⟨a, b, c, by decide, g4⟩
  · have hr : (joinS (partsOf s)).length ≤ room (slashOf s) := by
      unfold room
      split at g2 <;> rename_i hb
      · rw [if_pos hb]; omega
      · rw [if_neg hb]; omega
    rw [textOf_join h0, if_pos ⟨g1, hr⟩]
    obtain ⟨a, b, c⟩ := join_parse h0 g1 hr
    obtain ⟨r, hr2⟩ := joinS_ne h0
    refine ⟨a, b, c, ?_, ?_⟩
    · rw [joinB_size, hr2]; simp; omega
    · rw [joinB_size]; omega
/-- a path whose parts are good and whose text is not too long -/
theorem text_fit {l : List ByteArray} {b : Bool} (h0 : ¬ (l = [] ∧ b = true)) (hg : ∀ p ∈ l, good p) (hs : (joinS l).length + (if b = true ∨ l = [] then 1 else 0) ≤ 200) :
    ∃ u, textOf l b = u ∧ errOf u = 0 ∧ partsOf u = l ∧ slashOf u = b ∧ u.size = (joinS l).length + (if b = true ∨ l = [] then 1 else 0) := by
  refine ⟨_, rfl, ?_⟩
  by_cases hl : l = []
  · subst hl
    have hb : b = false := by simpa using h0
    subst hb
    have e : textOf [] false = ⟨#[47]⟩ := rfl
    rw [e]
    obtain ⟨a, c, d⟩ := slash_text
    exact ⟨a, c, d, by simp [joinS]; decide⟩
  · have hr : (joinS l).length ≤ room b := by
      unfold room
      cases b <;> simp [hl] at hs ⊢ <;> omega
    rw [textOf_join hl, if_pos ⟨hg, hr⟩]
    obtain ⟨a, c, d⟩ := join_parse hl hg hr
    refine ⟨a, c, d, ?_⟩
    rw [joinB_size]
    cases b <;> simp [hl]
theorem text_none {l : List ByteArray} {b : Bool} (h : ¬ (¬ (l = [] ∧ b = true) ∧ (∀ p ∈ l, good p) ∧ (joinS l).length + (if b = true ∨ l = [] then 1 else 0) ≤ 200)) : textOf l b = ByteArray.empty := by
  by_cases hl : l = []
  · subst hl
    by_cases hb : b = true
    · subst hb; rfl
    · exact absurd ⟨fun h => hb h.2, by simp, by simp [joinS]⟩ h
  · rw [textOf_join hl, if_neg]
    rintro ⟨a, c⟩
    refine h ⟨fun h => hl h.1, a, ?_⟩
    unfold room at c
    cases b <;> simp [hl] at c ⊢ <;> omega

/-- behind i parts -/
structure BkI (l : List ByteArray) (g0 : Bool) (i : Nat) (g : Bool) (sm : Int) : Prop where
  yes : g = true → g0 = true ∧ sm = (joinS (l.take i)).length ∧ (∀ p ∈ l.take i, good p) ∧ sm ≤ 229
  no : g0 = true → (∀ p ∈ l, good p) → (joinS l).length ≤ 200 → g = true
theorem BkI.start (l : List ByteArray) (g0 : Bool) : BkI l g0 0 g0 0 := ⟨fun h => ⟨h, by simp [joinS], by simp, by omega⟩, fun h _ _ => h⟩
/-- behind k bytes of a part -/
structure BkJ (s : ByteArray) (G : Bool) (k : Nat) (h : Bool) : Prop where
  yes : h = true → G = true ∧ ∀ j (hj : j < s.size), j < k → s[j] ≠ 47 ∧ s[j] ≠ 0
  no : G = true → (∀ j (hj : j < s.size), s[j] ≠ 47 ∧ s[j] ≠ 0) → h = true
theorem good_bytes {s : ByteArray} : good s ↔ 0 < s.size ∧ s.size ≤ 28 ∧ ∀ j (hj : j < s.size), s[j] ≠ 47 ∧ s[j] ≠ 0 := by
  constructor
  · rintro ⟨a, b, c, d⟩
    exact ⟨by omega, b, fun j hj => ⟨fun e => c (by rw [← e]; exact byte_mem s hj), fun e => d (by rw [← e]; exact byte_mem s hj)⟩⟩
  · rintro ⟨a, b, c⟩
    exact ⟨by omega, b, byte_all s 47 (fun j hj => (c j hj).1), byte_all s 0 (fun j hj => (c j hj).2)⟩
theorem joinS_one (l : List ByteArray) (i : Nat) (s : ByteArray) (hs : l[i]? = some s) : (joinS (l.take (i + 1))).length = (joinS (l.take i)).length + 1 + s.size := by
  rw [take_succ_get l i s hs, joinS_snoc, List.length_append, List.length_cons, bys_length]; omega
theorem BkJ.start (s : ByteArray) (G : Bool) : BkJ s G 0 G := ⟨fun h => ⟨h, fun j _ hj => by omega⟩, fun h _ => h⟩
theorem BkJ.more {s : ByteArray} {G : Bool} {k : Nat} (h : BkJ s G k true) (hk : k < s.size) (h1 : s[k] ≠ 47) (h2 : s[k] ≠ 0) : BkJ s G (k + 1) true :=
  ⟨fun e => ⟨(h.yes e).1, fun j hj hjk => by
    rcases Nat.lt_or_ge j k with hh | hh
    · exact (h.yes e).2 j hj hh
    · obtain rfl : j = k := by omega
      exact ⟨h1, h2⟩⟩, fun _ _ => rfl⟩
theorem BkJ.stop {s : ByteArray} {G : Bool} {k : Nat} (hk : k < s.size) (h1 : s[k] = 47 ∨ s[k] = 0) : BkJ s G (k + 1) false :=
  ⟨fun e => (nomatch e), fun _ h => by
    rcases h1 with e | e
    · exact absurd e (h k hk).1
    · exact absurd e (h k hk).2⟩
/-- the part may be -/
def BkG (s : ByteArray) (g G : Bool) (sm : Int) : Prop := (G = true → g = true ∧ 0 < s.size ∧ s.size ≤ 28 ∧ sm ≤ 200) ∧ (g = true → 0 < s.size → s.size ≤ 28 → sm ≤ 200 → G = true)
theorem BkI.step {l : List ByteArray} {i : Nat} {g0 g G h : Bool} {sm sm' : Int} {s : ByteArray} {k : Nat} (hI : BkI l g0 i g sm) (hs : l[i]? = some s) (hG : BkG s g G sm)
    (hJ : BkJ s G k h) (hk : h = true → k = s.size) (hsm : h = true → sm' = sm + 1 + s.size) : BkI l g0 (i + 1) h sm' := by
  refine ⟨fun e => ?_, fun h0 h1 h2 => ?_⟩
  · obtain ⟨e1, e2⟩ := hJ.yes e
    obtain ⟨f1, f2, f3, f4⟩ := hG.1 e1
    obtain ⟨y0, y1, y2, y3⟩ := hI.yes f1
    refine ⟨y0, ?_, ?_, ?_⟩
    · rw [hsm e, joinS_one l i s hs, y1]; push_cast; omega
    · rw [take_succ_get l i s hs]
      intro p hp
      rcases List.mem_append.1 hp with h | h
      · exact y2 p h
      · rw [List.mem_singleton.1 h]
        exact good_bytes.2 ⟨f2, f3, fun j hj => e2 j hj (by rw [hk e]; exact hj)⟩
    · rw [hsm e]; omega
  · have hg := hI.no h0 h1 h2
    obtain ⟨_, y1, _, _⟩ := hI.yes hg
    obtain ⟨a, b, c⟩ := good_bytes.1 (h1 s (List.mem_of_getElem? hs))
    have := joinS_take l i
    exact hJ.no (hG.2 hg a b (by rw [y1]; omega)) c
/-- behind the last part -/
theorem BkI.last {l : List ByteArray} {g0 g sl : Bool} {sm : Int} (h : BkI l g0 l.length g sm) (hg : g0 = true ↔ ¬ (l = [] ∧ sl = true)) {T : ByteArray} (hT : textOf l sl = T) :
    (g = false ∧ T = ByteArray.empty) ∨ (g = true ∧ 0 ≤ sm ∧ sm ≤ 229 ∧ ((200 < sm + (if sl = true ∨ l = [] then 1 else 0) ∧ T = ByteArray.empty) ∨ (sm + (if sl = true ∨ l = [] then 1 else 0) ≤ 200 ∧ errOf T = 0 ∧ partsOf T = l ∧ slashOf T = sl ∧ (T.size : Int) = sm + (if sl = true ∨ l = [] then 1 else 0)))) := by
  subst hT
  cases g
  · refine .inl ⟨rfl, text_none ?_⟩
    rintro ⟨a, b, c⟩
    have := h.no (hg.2 a) b (by omega)
    cases this
  · obtain ⟨a, b, c, d⟩ := h.yes rfl
    rw [List.take_of_length_le (Nat.le_refl _)] at b c
    refine .inr ⟨rfl, by omega, d, ?_⟩
    by_cases hs : (joinS l).length + (if sl = true ∨ l = [] then 1 else 0) ≤ 200
    · obtain ⟨u, rfl, u1, u2, u3, u4⟩ := text_fit (hg.1 a) c hs
      refine .inr ⟨?_, u1, u2, u3, ?_⟩
      · rw [b]; split at hs <;> rename_i hh
        · rw [if_pos hh]; omega
        · rw [if_neg hh]; omega
      · rw [u4, b]; split <;> simp
    · refine .inl ⟨?_, text_none (fun h => hs h.2.2)⟩
      rw [b]; split at hs <;> rename_i hh
      · rw [if_pos hh]; omega
      · rw [if_neg hh]; omega

set_option maxRecDepth 100000 in
set_option maxHeartbeats 8000000 in
theorem back_any (W : World) (s : ByteArray) (A : Option Addr) (n c : Nat) (l : List ByteArray) (sl : Bool) (hs : StrsV W (.slice A n c) l) :
    Calls Tryd.prog 5 #[.string s, .agg #[.slice A n c, .bool sl]] W fun e W' => e = .returned (.bool true) ∧ Below W.heap.size W W' := by
  have hn : n = l.length := by obtain ⟨_, _, e, _⟩ := hs.1; injection e
  have hlen := hs.2.2
  have HLN := Lib.hid hn.symm
  rw [← hn] at hlen
  have hNM := hs.2.1
  have HNM := Lib.hid hNM
  have hcm : n ≤ c ∧ c ≤ 9223372036854775807 := by
    obtain ⟨_, _, e, k1, k2, _⟩ := hs.1
    injection e with _ e1 e
    exact ⟨by rw [e, hn]; exact k1, by rw [e]; exact maxLen_eq ▸ k2⟩
  obtain ⟨hc1, hc2⟩ := hcm
  have hb0 : Below W.heap.size W (W.alloc (.cells #[.slice A n c, .bool sl] 25)) := (Below.refl _ _).alloc (Nat.le_refl _) _
  have HB : Hid (∀ W', Below (W.heap.size + 1) (W.alloc (.cells #[.slice A n c, .bool sl] 25)) W' → Below W.heap.size W W' ∧ W'.heap[W.heap.size]? = some (.cells #[.slice A n c, .bool sl] 25 (0, 0)) ∧ RdS W' (.slice A n c) l) := Lib.hid (fun W' hb => by
    have hb2 := below_lift hb0 (by simpa using hb)
    exact ⟨hb2, (hb.block _ (by simp)).trans (heap_alloc_new W _), hs.1.below hb2⟩)
  clear hb0 hs hn hNM
  go_enter Tryd.func5, Tryd.ntmps5
  go_wp2_with fail
  refine (first_any _).mono ?_
  rintro e w1 ⟨rfl, hb1⟩
  have hq : Below (W.heap.size + 1) (W.alloc (.cells #[.slice A n c, .bool sl] 25)) w1 := by simpa using hb1
  clear hb1
  go_wp2_with fail
  refine (parse_any w1 s).mono ?_
  rintro e w2 ⟨hb2, hp⟩
  have hq := below_up (by simp) hq hb2
  clear hb2
  have hv : ∃ A m c b, e = .returned (.tuple #[.agg #[.slice A m c, .bool b], .int .i64 (errOf s)]) ∧ (errOf s = 0 → b = slashOf s ∧ RdS w2 (.slice A m c) (partsOf s)) := by
    by_cases h0 : errOf s = 0
    · rw [if_pos h0] at hp
      obtain ⟨v, rfl, ho⟩ := hp
      obtain ⟨A5, c5, rfl⟩ := own_form ho
      exact ⟨A5, _, c5, _, by rw [h0]; rfl, fun _ => ⟨rfl, RdS.of_own ho⟩⟩
    · rw [if_neg h0] at hp
      exact ⟨_, _, _, _, hp, fun h => absurd h h0⟩
  clear hp
  obtain ⟨A5, m, c5, b, rfl, hp⟩ := hv
  obtain ⟨er, her⟩ : ∃ er, errOf s = er := ⟨_, rfl⟩
  rw [her] at hp ⊢
  obtain ⟨z, hz⟩ : ∃ z, (er == 0) = z := ⟨_, rfl⟩
  go_upto_if 26 with fail
  go_cut [7, 8, 9] from 27 to 161 (fun _ _ _ wx => Hid (Below (W.heap.size + 1) (W.alloc (.cells #[.slice A n c, .bool sl] 25)) wx))
  case first =>
    cases z
    rotate_left
    · obtain rfl : er = 0 := by simpa using hz
      clear hz
      obtain ⟨hb, hr5⟩ := hp rfl
      clear hp
      obtain ⟨u, hu, u1, u2, u3, u4, u5⟩ := back_text her
      obtain ⟨P, hP⟩ : ∃ P, partsOf s = P := ⟨_, rfl⟩
      rw [hP, ← hb] at hu
      rw [hP] at u2 hr5
      rw [← hb] at u3
      have hm : P.length = m := by obtain ⟨_, _, e, _⟩ := hr5; injection e with _ e; exact e.symm
      clear her hP hb
      have hb5 : Below w2.heap.size w2 (w2.alloc (.cells #[.slice A5 m c5, .bool b] 25)) := (Below.refl _ _).alloc (Nat.le_refl _) _
      have HR5 : Hid (∀ W', Below (w2.heap.size + 1) (w2.alloc (.cells #[.slice A5 m c5, .bool b] 25)) W' → Below (W.heap.size + 1) (W.alloc (.cells #[.slice A n c, .bool sl] 25)) W' ∧ RdS W' (.slice A5 m c5) P ∧ W'.heap[w2.heap.size]? = some (.cells #[.slice A5 m c5, .bool b] 25 (0, 0))) := Lib.hid (fun W' hb => by
        have hb2 := below_lift hb5 (by simpa using hb)
        exact ⟨below_up (by simp) hq hb2, hr5.below hb2, (hb.block _ (by simp)).trans (heap_alloc_new w2 _)⟩)
      have hx5 : Below (w2.heap.size + 1) (w2.alloc (.cells #[.slice A5 m c5, .bool b] 25)) (w2.alloc (.cells #[.slice A5 m c5, .bool b] 25)) := Below.refl _ _
      have HM := Lib.hid hm
      clear hq hb5 hr5 hm
      go_wp2_with fail
      refine (text_any _ _ P b (HR5.out _ hx5).2.1).mono ?_
      rintro e w3 ⟨rfl, hb3⟩
      rw [hu]
      have HU := Lib.hid hu
      have hx5 := below_up (by simp) hx5 hb3
      clear hb3 hu
      go_wp2_with fail
      refine (parse_any w3 u).mono ?_
      rintro e w4 ⟨hb4, hp⟩
      rw [if_pos u1, u2] at hp
      obtain ⟨v8, rfl, ho⟩ := hp
      obtain ⟨A8, c8, rfl⟩ := own_form ho
      have hx5 := below_up (by simp) hx5 hb4
      have he : (!P.isEmpty && endsSlash u) = b := by rw [← u3, slashOf, u2]
      have hr8 := RdS.of_own ho
      rw [he]
      rw [HM.out] at hr8 ⊢
      have hb8 : Below w4.heap.size w4 (w4.alloc (.cells #[.slice A8 m c8, .bool b] 25)) := (Below.refl _ _).alloc (Nat.le_refl _) _
      have HR8 : Hid (∀ W', Below (w4.heap.size + 1) (w4.alloc (.cells #[.slice A8 m c8, .bool b] 25)) W' → Below (w2.heap.size + 1) (w2.alloc (.cells #[.slice A5 m c5, .bool b] 25)) W' ∧ RdS W' (.slice A8 m c8) P ∧ W'.heap[w4.heap.size]? = some (.cells #[.slice A8 m c8, .bool b] 25 (0, 0))) := Lib.hid (fun W' hb => by
        have hb2 := below_lift hb8 (by simpa using hb)
        exact ⟨below_up (by simp) hx5 hb2, hr8.below hb2, (hb.block _ (by simp)).trans (heap_alloc_new w4 _)⟩)
      have hx8 : Below (w4.heap.size + 1) (w4.alloc (.cells #[.slice A8 m c8, .bool b] 25)) (w4.alloc (.cells #[.slice A8 m c8, .bool b] 25)) := Below.refl _ _
      have hb58 := (HR5.out _ (HR8.out _ hx8).1).2.2
      have d0 := cell_of_row _ _ 0 _ _ _ hb58
      have d1 := cell_of_row _ _ 1 _ _ _ hb58
      simp only [List.getElem?_toArray, List.getElem?_cons_zero, List.getElem?_cons_succ] at d0 d1
      have hlt5 := heap_lt hb58
      have hune : (u.toList == []) = false := by
        rw [beq_eq_false_iff_ne, toList_bys]
        exact fun e => by have := bys_nil.1 e; omega
      have hul : (s.size < u.size) = False := by simp; omega
      clear hb4 hx5 ho hr8 hb8 he hb58 u1 u2 u3 u4 u5
      go_wp2_with fail
      refine (samePath_any _ _ _ P P b b (HR5.out _ (HR8.out _ hx8).1).2.1 (HR8.out _ hx8).2.1).mono ?_
      rintro e wX ⟨rfl, hbX⟩
      rw [sameP_rfl]
      have hx8 := below_up (by simp) hx8 hbX
      have hbx := (HR8.out _ hx8).2.2
      have d2 := cell_of_row _ _ 0 _ _ _ hbx
      have d3 := cell_of_row _ _ 1 _ _ _ hbx
      have hlt8 := heap_lt hbx
      simp only [List.getElem?_toArray, List.getElem?_cons_zero, List.getElem?_cons_succ] at d2 d3
      clear hbx hbX d0 d1
      go_wp2_with fail
      refine (text_any _ _ P b (HR8.out _ hx8).2.1).mono ?_
      rintro e wY ⟨rfl, hbY⟩
      rw [HU.out]
      have hq := (HR5.out _ (HR8.out _ (below_up (by simp) hx8 hbY)).1).1
      clear hbY hlt8 hx8 d2 d3 hune hul hlt5
      have HQ := Lib.hid hq
      clear hq
      go_wp2_with fail
      go_meet
      case rel => exact HQ
    · have HQ := Lib.hid (hq.alloc (by simpa using hq.size) (.cells #[.slice A5 m c5, .bool b] 25))
      clear hq hp
      go_wp2_with fail
      go_meet
      case rel => exact HQ
  case rest =>
    have HQ := hcut
    clear hcut hq hp her hz
    have hbx := (HB.out _ HQ.out).2.1
    have d2 := cell_of_row _ _ 0 _ _ _ hbx
    have d3 := cell_of_row _ _ 1 _ _ _ hbx
    simp only [List.getElem?_toArray, List.getElem?_cons_zero, List.getElem?_cons_succ] at d2 d3
    have hlt3 := heap_lt hbx
    clear hbx
    go_wp2_with fail
    refine (text_any _ _ l sl (HB.out _ HQ.out).2.2).mono ?_
    rintro e w3 ⟨rfl, hb3⟩
    have HQ3 := Lib.hid (below_up (by simp) HQ.out hb3)
    have hbx := (HB.out _ HQ3.out).2.1
    have d2 := cell_of_row _ _ 0 _ _ _ hbx
    have d3 := cell_of_row _ _ 1 _ _ _ hbx
    simp only [List.getElem?_toArray, List.getElem?_cons_zero, List.getElem?_cons_succ] at d2 d3
    have hlt3 := heap_lt hbx
    clear hbx hb3 HQ
    obtain ⟨T, hT⟩ : ∃ T, textOf l sl = T := ⟨_, rfl⟩
    have HT := Lib.hid hT
    rw [hT]
    clear hT
    go_upto_region 10 with fail
    go_cut [11] from 61 to 161 (fun v11 wx => ∃ G, v11 = .bool G ∧ Hid (G = true ↔ ¬ (l = [] ∧ sl = true)) ∧ wx = w3)
    case first =>
      have HLL := Lib.hid (show l = [] ↔ n = 0 by rw [← HLN.out]; exact List.length_eq_zero_iff.symm)
      by_cases hn0 : n = 0
      · have hn1 : ((n : Int) == 0) = true := by rw [hn0]; rfl
        have HN0 := Lib.hid hn0
        clear hn0
        cases sl
        · go_wp2_with fail
          go_meet
          case rel => exact ⟨_, rfl, Lib.hid (by simp), rfl⟩
        · go_wp2_with fail
          go_meet
          case rel => exact ⟨_, rfl, Lib.hid (by simp [HLL.out, HN0.out]), rfl⟩
      · have hn1 : ((n : Int) == 0) = false := by rw [beq_eq_false_iff_ne]; omega
        have HN0 := Lib.hid hn0
        clear hn0
        go_wp2_with fail
        go_meet
        case rel => exact ⟨_, rfl, Lib.hid (by simp [HLL.out, HN0.out]), rfl⟩
    case rest =>
      obtain ⟨g0, rfl, HG0, rfl⟩ := hcut
      go_wp2_with fail
      have HRQ := Lib.hid (HB.out _ HQ3.out).2.2
      go_loopw [11, 12, 13] (fun v11 v12 v13 wr => ∃ (i : Nat) (g : Bool) (sm : Int), i ≤ n ∧ v13 = .int .i64 i ∧ v11 = .bool g ∧ v12 = .int .i64 sm ∧ Hid (BkI l g0 i g sm) ∧ wr = wc) (fun _ _ v13 _ => n - (intOf v13).toNat)
      case atStart => exact ⟨0, g0, 0, by omega, rfl, rfl, rfl, Lib.hid (BkI.start l g0), rfl⟩
      case round =>
        obtain ⟨i, g, sm, hi, rfl, rfl, rfl, HI, rfl⟩ := hrel
        by_cases hil : i < n
        · obtain ⟨A', c', e, k1, k2, k3⟩ := HRQ.out
          injection e with e1 e2 e3
          subst e1 e3
          obtain ⟨gg, off, rfl, hgw, hh⟩ := k3 (by rw [HLN.out]; omega)
          obtain ⟨s, hs⟩ : ∃ s, l[i]? = some s := ⟨_, List.getElem?_eq_getElem (by rw [HLN.out]; exact hil)⟩
          have e0 := hh i s hs
          have HSS := Lib.hid hs
          have hsz := HNM.out s (List.mem_of_getElem? hs)
          clear hh hs k3 e2 k1 k2
          obtain ⟨G, hGd⟩ : ∃ G, G = (g && decide (0 < s.size) && decide (s.size ≤ 28) && decide (sm ≤ 200)) := ⟨_, rfl⟩
          have HG : Hid (BkG s g G sm) := by
            refine Lib.hid ⟨fun h => ?_, fun a b c d => ?_⟩
            · rw [hGd] at h
              simp only [Bool.and_eq_true, decide_eq_true_eq] at h
              exact ⟨h.1.1.1, h.1.1.2, h.1.2, h.2⟩
            · rw [hGd]
              simp only [Bool.and_eq_true, decide_eq_true_eq]
              exact ⟨⟨⟨a, b⟩, c⟩, d⟩
          have hcase : (g = false ∧ G = false) ∨ (g = true ∧ (0 < s.size) = False ∧ G = false) ∨ (g = true ∧ (0 < s.size) = True ∧ ((s.size : Int) ≤ 28) = False ∧ G = false) ∨ (g = true ∧ (0 < s.size) = True ∧ ((s.size : Int) ≤ 28) = True ∧ (sm ≤ 200) = False ∧ G = false) ∨ (g = true ∧ (0 < s.size) = True ∧ ((s.size : Int) ≤ 28) = True ∧ (sm ≤ 200) = True ∧ 0 ≤ sm ∧ sm ≤ 229 ∧ G = true) := by
            rw [hGd]
            cases g
            · exact .inl ⟨rfl, rfl⟩
            · by_cases h1 : 0 < s.size
              · by_cases h2 : s.size ≤ 28
                · by_cases h3 : sm ≤ 200
                  · exact .inr (.inr (.inr (.inr ⟨rfl, by simp [h1], by simp; omega, by simp [h3], by have := (HI.out.yes rfl).2.1; omega, (HI.out.yes rfl).2.2.2, by simp [h1, h2, h3]⟩)))
                  · exact .inr (.inr (.inr (.inl ⟨rfl, by simp [h1], by simp; omega, by simp [h3], by simp [h3]⟩)))
                · exact .inr (.inr (.inl ⟨rfl, by simp [h1], by simp; omega, by simp [h2]⟩))
              · exact .inr (.inl ⟨rfl, by simp [h1], by simp [h1]⟩)
          clear hGd
          rcases hcase with ⟨rfl, hG⟩ | ⟨rfl, hz1, hG⟩ | ⟨rfl, hz1, hz2, hG⟩ | ⟨rfl, hz1, hz2, hz3, hG⟩ | ⟨rfl, hz1, hz2, hz3, hz4, hz5, hG⟩
          all_goals
            go_wp2_with fail
            go_loopw [11, 15] (fun v11 v15 wi => ∃ (k : Nat) (h : Bool), k ≤ s.size ∧ v15 = .int .i64 k ∧ v11 = .bool h ∧ Hid (BkJ s G k h) ∧ wi = wr) (fun _ v15 _ => s.size - (intOf v15).toNat)
            case atStart => exact ⟨0, G, by omega, rfl, by rw [hG], Lib.hid (BkJ.start s G), rfl⟩
            case round =>
              obtain ⟨k, h, hk, rfl, rfl, HJ, rfl⟩ := hrel
              cases h
              · go_wp2_with fail
                go_roundw
                case rel => exact ⟨i + 1, false, _, by omega, by go_num, rfl, rfl, Lib.hid (HI.out.step HSS.out HG.out HJ.out (fun e => nomatch e) (fun e => nomatch e)), trivial⟩
                case measure => simp [intOf]; omega
              · by_cases hks : k < s.size
                · rcases byte_cases s[k] with hx | hx | ⟨hx1, hx2, hx3, hx4⟩
                  · have hb1 : ((s[k].toNat : Int) != 47) = false := by rw [hx]; rfl
                    have HK := Lib.hid (BkJ.stop (G := G) hks (.inl hx))
                    go_wp2_with fail
                    go_roundw
                    case rel => exact ⟨k + 1, false, by omega, by go_num, rfl, HK, trivial⟩
                    case measure => simp [intOf]; omega
                  · have hb1 : ((s[k].toNat : Int) != 47) = true := by rw [hx]; rfl
                    have hb2 : ((s[k].toNat : Int) != 0) = false := by rw [hx]; rfl
                    have HK := Lib.hid (BkJ.stop (G := G) hks (.inr hx))
                    go_wp2_with fail
                    go_roundw
                    case rel => exact ⟨k + 1, false, by omega, by go_num, rfl, HK, trivial⟩
                    case measure => simp [intOf]; omega
                  · have HK := Lib.hid (HJ.out.more hks hx3 hx4)
                    have hb1 : ((s[k].toNat : Int) != 47) = true := by simp only [bne, hx1]; rfl
                    have hb2 : ((s[k].toNat : Int) != 0) = true := by simp only [bne, hx2]; rfl
                    clear hx1 hx2 hx3 hx4
                    go_wp2_with fail
                    go_roundw
                    case rel => exact ⟨k + 1, true, by omega, by go_num, rfl, HK, trivial⟩
                    case measure => simp [intOf]; omega
                · obtain rfl : k = s.size := by omega
                  go_wp2_with fail
                  go_roundw
                  case rel => exact ⟨i + 1, true, _, by omega, by go_num, rfl, rfl, Lib.hid (HI.out.step HSS.out HG.out HJ.out (fun _ => rfl) (fun e => by
                    have hGt := (HJ.out.yes e).1
                    first
                      | (rw [hG] at hGt; cases hGt; done)
                      | rfl)), trivial⟩
                  case measure => simp [intOf]; omega
        · obtain rfl : i = n := by omega
          have hi2 := HI.out
          rw [← HLN.out] at hi2
          have hfin := hi2.last HG0.out HT.out
          have hll : l = [] ↔ i = 0 := by rw [← HLN.out]; exact List.length_eq_zero_iff.symm
          have hE : (sl = true ∧ (if sl = true ∨ l = [] then (1 : Int) else 0) = 1) ∨ (sl = false ∧ ((i : Int) == 0) = true ∧ (if sl = true ∨ l = [] then (1 : Int) else 0) = 1) ∨ (sl = false ∧ ((i : Int) == 0) = false ∧ (if sl = true ∨ l = [] then (1 : Int) else 0) = 0) := by
            by_cases h1 : sl = true
            · exact .inl ⟨h1, if_pos (.inl h1)⟩
            · by_cases h2 : i = 0
              · exact .inr (.inl ⟨by simpa using h1, by rw [h2]; rfl, if_pos (.inr (hll.2 h2))⟩)
              · exact .inr (.inr ⟨by simpa using h1, by rw [beq_eq_false_iff_ne]; omega, if_neg (fun h => h.elim h1 (fun h => h2 (hll.1 h)))⟩)
          obtain ⟨E, hEd⟩ : ∃ E, (if sl = true ∨ l = [] then (1 : Int) else 0) = E := ⟨_, rfl⟩
          rw [hEd] at hfin hE
          clear hEd hll hi2 HI
          rcases hE with ⟨rfl, rfl⟩ | ⟨rfl, hi0, rfl⟩ | ⟨rfl, hi0, rfl⟩
          all_goals
            rcases hfin with ⟨rfl, rfl⟩ | ⟨rfl, hs1, hs2, ⟨hs3, rfl⟩ | ⟨hs3, t1, t2, t3, t4⟩⟩
            · go_wp2_with fail
              go_ret
              exact ⟨rfl, (HB.out _ HQ3.out).1⟩
            · go_wp2_with fail
              go_ret
              exact ⟨rfl, (HB.out _ HQ3.out).1⟩
            · go_wp2_with fail
              refine (parse_any _ T).mono ?_
              rintro e w4 ⟨hb4, hp⟩
              rw [if_pos t1, t2] at hp
              obtain ⟨v, rfl, ho⟩ := hp
              rw [show (!l.isEmpty && endsSlash T) = slashOf T by rw [slashOf, t2], t3]
              obtain ⟨A6, c6, rfl⟩ := own_form ho
              have hq4 := below_up (by simp) HQ3.out hb4
              have hbx := (HB.out _ hq4).2.1
              have d2 := cell_of_row _ _ 0 _ _ _ hbx
              have d3 := cell_of_row _ _ 1 _ _ _ hbx
              simp only [List.getElem?_toArray, List.getElem?_cons_zero, List.getElem?_cons_succ] at d2 d3
              have hlt4 := heap_lt hbx
              have HR4 := Lib.hid (RdS.of_own ho)
              have HQ4 := Lib.hid hq4
              clear hb4 ho hbx hq4 t1 t2 t3
              go_wp2_with fail
              refine (samePath_any _ _ _ l l _ _ (HR4.out.below ((Below.refl _ _).alloc (Nat.le_refl _) _)) ((HB.out _ HQ4.out).2.2.below ((Below.refl _ _).alloc (Nat.le_refl _) _))).mono ?_
              rintro e w5 ⟨rfl, hb5⟩
              rw [sameP_rfl]
              have HQ5 := Lib.hid (below_up (by simp) (HQ4.out.alloc (by simpa using HQ4.out.size) _) hb5)
              clear hb5
              go_wp2_with fail
              go_ret
              exact ⟨rfl, (HB.out _ HQ5.out).1⟩

theorem PathBack.walk (W : World) (s : ByteArray) (_hs : s.size ≤ 140737488351232) (u : Value) (hp : PathV W u) : Calls Tryd.prog 5 #[.string s, u] W fun e W' => e = .returned (.bool true) ∧ Below W.heap.size W W' := by
  obtain ⟨u, l, b, rfl, hl, _⟩ := hp
  obtain ⟨A, c, rfl, _⟩ := hl.1
  exact back_any W s A _ c l b hl

end Go.Proofs.YtpombeiabgbpiaaDoor
