/-
The plain law of texts and paths: a text's parts, byte by byte; what is told of a path, and what it is read as.
-/
import Derived.Test.YtpombeiabgbpiaaDoorWText
import Derived.Test.YtpombeiabgbpiaaDoorWSame
namespace Go.Proofs.YtpombeiabgbpiaaDoor
open Go.RowKit

/-- a text's parts, behind the bytes of a part begun -/
def pt (acc : List UInt8) : List UInt8 → List (List UInt8)
  | [] => if acc = [] then [] else [acc]
  | x :: r => if x = 47 then (if acc = [] then pt [] r else acc :: pt [] r) else pt (acc ++ [x]) r
theorem pt_nil (acc : List UInt8) : pt acc [] = if acc = [] then [] else [acc] := rfl
theorem pt_slash (acc r : List UInt8) : pt acc (47 :: r) = if acc = [] then pt [] r else acc :: pt [] r := by rw [pt, if_pos rfl]
theorem pt_byte (acc : List UInt8) {x : UInt8} (h : x ≠ 47) (r : List UInt8) : pt acc (x :: r) = pt (acc ++ [x]) r := by rw [pt, if_neg h]
theorem pt_run : ∀ (u acc r : List UInt8), 47 ∉ u → pt acc (u ++ r) = pt (acc ++ u) r
  | [], acc, r, _ => by simp
  | x :: u, acc, r, h => by
    rw [List.cons_append, pt_byte _ (fun e => h (by simp [e])), pt_run u _ r (fun e => h (by simp [e])), List.append_assoc]
    rfl
/-- a part that ends -/
theorem pt_word {p r : List UInt8} (hp : p ≠ []) (hr : r = [] ∨ r.head? = some 47) : pt p r = p :: pt [] r := by
  rcases r with _ | ⟨x, r⟩
  · rw [pt_nil, if_neg hp, pt_nil, if_pos rfl]
  · obtain rfl : x = 47 := by simpa using hr
    rw [pt_slash, if_neg hp, pt_slash, if_pos rfl]
theorem pt_mem : ∀ (l acc p : List UInt8), p ∈ pt acc l → 47 ∉ acc → p ≠ [] ∧ 47 ∉ p ∧ ∀ x ∈ p, x ∈ acc ∨ x ∈ l
  | [], acc, p, h, ha => by
    rw [pt_nil] at h
    split at h
    · simp at h
    · rw [List.mem_singleton.1 h]
      exact ⟨by assumption, ha, fun x hx => .inl hx⟩
  | x :: r, acc, p, h, ha => by
    by_cases hx : x = 47
    · subst hx
      rw [pt_slash] at h
      split at h
      · obtain ⟨a, b, c⟩ := pt_mem r [] p h (by simp)
        exact ⟨a, b, fun x hx => .inr (List.mem_cons_of_mem _ ((c x hx).resolve_left (by simp)))⟩
      · rcases List.mem_cons.1 h with rfl | h
        · exact ⟨by assumption, ha, fun x hx => .inl hx⟩
        · obtain ⟨a, b, c⟩ := pt_mem r [] p h (by simp)
          exact ⟨a, b, fun x hx => .inr (List.mem_cons_of_mem _ ((c x hx).resolve_left (by simp)))⟩
    · rw [pt_byte _ hx] at h
      obtain ⟨a, b, c⟩ := pt_mem r _ p h (by simp [ha, Ne.symm hx])
      refine ⟨a, b, fun y hy => ?_⟩
      rcases c y hy with h | h
      · rcases List.mem_append.1 h with h | h
        · exact .inl h
        · rw [List.mem_singleton.1 h]; exact .inr (List.mem_cons_self ..)
      · exact .inr (List.mem_cons_of_mem _ h)
/-- parts joined read as the parts -/
theorem pt_join : ∀ (l : List (List UInt8)) (b : Bool), (∀ p ∈ l, p ≠ [] ∧ 47 ∉ p) → pt [] (l.flatMap (fun p => 47 :: p) ++ if b then [47] else []) = l
  | [], b, _ => by cases b <;> rfl
  | p :: l, b, h => by
    have hp := h p (List.mem_cons_self ..)
    have ih := pt_join l b (fun q hq => h q (List.mem_cons_of_mem _ hq))
    rw [List.flatMap_cons, List.append_assoc, List.cons_append, pt_slash, if_pos rfl, pt_run p [] _ hp.2, List.nil_append, pt_word hp.1, ih]
    rcases l with _ | ⟨q, l⟩
    · cases b
      · exact .inl rfl
      · exact .inr rfl
    · exact .inr rfl
/-- the parts and slashes are no more than the text -/
theorem pt_len : ∀ (l acc : List UInt8), ((pt acc l).flatMap (fun p => 47 :: p)).length + (if l.getLast? = some 47 then 1 else 0) ≤ acc.length + l.length + 1
  | [], acc => by
    rw [pt_nil]
    split <;> simp
  | x :: r, acc => by
    have hl : ∀ y, (y :: r).getLast? = some 47 → r = [] ∧ y = 47 ∨ r.getLast? = some 47 := by
      intro y h
      rcases List.eq_nil_or_concat r with rfl | ⟨q, z, rfl⟩
      · exact .inl ⟨rfl, by simpa using h⟩
      · right
        rw [List.concat_eq_append, ← List.cons_append, List.getLast?_concat] at h
        rw [List.concat_eq_append, List.getLast?_concat]; exact h
    by_cases hx : x = 47
    · subst hx
      rw [pt_slash]
      have ih := pt_len r []
      rcases r with _ | ⟨y, r⟩
      · split
        · simp [pt_nil]
        · simp [pt_nil]
      · have e : (47 :: y :: r).getLast? = (y :: r).getLast? := by simp [List.getLast?_cons_cons]
        rw [e]
        split
        · simp at ih ⊢; omega
        · simp at ih ⊢; omega
    · rw [pt_byte _ hx]
      have ih := pt_len r (acc ++ [x])
      have e : (if (x :: r).getLast? = some 47 then 1 else 0) ≤ (if r.getLast? = some 47 then 1 else 0) := by
        split
        · rename_i h
          rcases hl x h with ⟨_, h⟩ | h
          · exact absurd h hx
          · rw [if_pos h]; exact Nat.le_refl _
        · exact Nat.zero_le _
      simp at ih ⊢; omega

theorem no_slash {s : ByteArray} (h : Lib.indexByte (bys s) 47 = -1) : 47 ∉ bys s := fun hm => by
  obtain ⟨k, hk⟩ := List.mem_iff_getElem?.1 hm
  exact Lib.indexByte_none h k hk
theorem kept_cons (x : ByteArray) (l : List ByteArray) : kept (x :: l) = if x.size = 0 then kept l else x :: kept l := by
  unfold kept
  rw [List.filter_cons]
  by_cases h : x.size = 0 <;> simp [h]
theorem bys_nil {s : ByteArray} : bys s = [] ↔ s.size = 0 := by
  rw [← bys_length]; exact List.length_eq_zero_iff.symm
theorem frs_pt : ∀ (n : Nat) (t : ByteArray), t.size ≤ n → (kept (frs n t)).map bys = pt [] (bys t)
  | 0, t, h => by
    have h0 : t.size = 0 := by omega
    rw [bys_nil.2 h0]
    simp [frs, kept, h0, pt_nil]
  | n + 1, t, h => by
    rcases slash_at t with e | ⟨i, e, hi⟩
    · rw [frs_end e, kept_cons]
      have := pt_run (bys t) [] [] (no_slash e)
      rw [List.append_nil, List.nil_append, pt_nil] at this
      rw [this]
      by_cases h0 : t.size = 0
      · rw [if_pos h0, if_pos (bys_nil.2 h0)]; rfl
      · rw [if_neg h0, if_neg (fun e => h0 (bys_nil.1 e))]; rfl
    · obtain ⟨h1, h2⟩ := Lib.indexByte_some e
      have hs : bys t = (bys t).take i ++ 47 :: (bys t).drop (i + 1) := by
        have hl := (List.getElem?_eq_some_iff.1 h1)
        rw [← hl.2, List.getElem_cons_drop, List.take_append_drop]
      have hn : 47 ∉ (bys t).take i := fun hm => by
        obtain ⟨k, hk⟩ := List.mem_iff_getElem?.1 hm
        rw [List.getElem?_take] at hk
        split at hk
        · exact h2 k (by assumption) hk
        · cases hk
      have e1 : bys (t.extract 0 i) = (bys t).take i := by rw [bys_extract]; rfl
      have e2 : bys (t.extract (i + 1) t.size) = (bys t).drop (i + 1) := by rw [bys_extract, List.take_of_length_le (by rw [bys_length]; exact Nat.le_refl _)]
      have ih := frs_pt n (t.extract (i + 1) t.size) (by rw [ByteArray.size_extract]; omega)
      rw [frs_more e, kept_cons, hs, pt_run _ _ _ hn, List.nil_append, pt_slash, ← e2, ← ih]
      have hz : (t.extract 0 i).size = 0 ↔ (bys t).take i = [] := by rw [← bys_nil, e1]
      by_cases h0 : (bys t).take i = []
      · rw [if_pos (hz.2 h0), if_pos h0]
      · rw [if_neg (fun h => h0 (hz.1 h)), if_neg h0, List.map_cons, e1]
theorem parts_bys (t : ByteArray) : (partsOf t).map bys = pt [] (bys t) := frs_pt _ _ (Nat.le_refl _)
theorem frs_long (t : ByteArray) : (∃ x ∈ frs t.size t, 28 < x.size) ↔ ∃ p ∈ pt [] (bys t), 28 < p.length := by
  rw [← parts_bys]
  constructor
  · rintro ⟨x, hx, h⟩
    exact ⟨bys x, List.mem_map.2 ⟨x, by unfold partsOf kept; exact List.mem_filter.2 ⟨hx, by have h : 28 < x.size := h; simp only [bne_iff_ne]; omega⟩, rfl⟩, by rwa [bys_length]⟩
  · rintro ⟨p, hp, h⟩
    obtain ⟨x, hx, rfl⟩ := List.mem_map.1 hp
    exact ⟨x, (List.mem_filter.1 hx).1, by rwa [bys_length] at h⟩
theorem parts_mem {t p : ByteArray} (h : p ∈ partsOf t) : p.size ≠ 0 ∧ 47 ∉ bys p ∧ ∀ x ∈ bys p, x ∈ bys t := by
  have hm : bys p ∈ pt [] (bys t) := by rw [← parts_bys]; exact List.mem_map.2 ⟨p, h, rfl⟩
  obtain ⟨a, b, c⟩ := pt_mem _ _ _ hm (by simp)
  exact ⟨fun e => a (bys_nil.2 e), b, fun x hx => (c x hx).resolve_left (by simp)⟩
theorem parts_eq {t : ByteArray} {l : List ByteArray} (h : pt [] (bys t) = l.map bys) : partsOf t = l := by
  rw [← parts_bys] at h
  exact (List.map_inj_right (fun _ _ => bys_inj)).1 h
theorem joinS_flat (l : List ByteArray) : joinS l = (l.map bys).flatMap (fun p => 47 :: p) := by
  unfold joinS
  rw [List.flatMap_map]
theorem err_ok {t : ByteArray} : errOf t = 0 ↔ t.size ≤ 200 ∧ (bys t).head? = some 47 ∧ 0 ∉ bys t ∧ ¬ ∃ p ∈ pt [] (bys t), 28 < p.length := by
  unfold errOf
  have hfl := frs_long t
  constructor
  · intro h
    split at h
    · cases h
    · split at h
      · cases h
      · split at h
        · cases h
        · split at h
          · cases h
          · rename_i a b c d
            exact ⟨by omega, by simpa using b, c, fun h => d (hfl.2 h)⟩
  · rintro ⟨a, b, c, d⟩
    rw [if_neg (by omega), if_neg (by simpa using b), if_neg c, if_neg (fun h => d (hfl.1 h))]
/-- does a path read from a text end in a slash? -/
def slashOf (t : ByteArray) : Bool := !(partsOf t).isEmpty && endsSlash t
/-- what is read is good, and can be told in no more bytes -/
theorem parse_good {t : ByteArray} (h : errOf t = 0) : (∀ p ∈ partsOf t, good p) ∧ (joinS (partsOf t)).length + (if slashOf t = true then 1 else 0) ≤ t.size ∧ t.size ≤ 200 ∧ 1 ≤ t.size := by
  obtain ⟨h1, h2, h3, h4⟩ := err_ok.1 h
  have hb := parts_bys t
  have hl : ∃ r, bys t = 47 :: r := by
    cases e : bys t with
    | nil => rw [e] at h2; cases h2
    | cons x r => rw [e] at h2; exact ⟨r, by simpa using h2⟩
  obtain ⟨r, hr⟩ := hl
  refine ⟨fun p hp => ?_, ?_, h1, by rw [← bys_length, hr]; simp⟩
  · obtain ⟨a, b, c⟩ := parts_mem hp
    refine ⟨a, ?_, b, fun h => h3 (c 0 h)⟩
    rcases Nat.lt_or_ge 28 p.size with hh | hh
    · exact absurd ⟨bys p, by rw [← hb]; exact List.mem_map.2 ⟨p, hp, rfl⟩, by rwa [bys_length]⟩ h4
    · exact hh
  · rw [joinS_flat, hb, hr, pt_slash, if_pos rfl]
    have hp := pt_len r []
    have hs : t.size = r.length + 1 := by rw [← bys_length, hr]; simp
    have hle : (if slashOf t = true then 1 else 0) ≤ (if r.getLast? = some 47 then 1 else 0) := by
      by_cases h : slashOf t = true
      · unfold slashOf at h
        rw [Bool.and_eq_true] at h
        have he : (bys t).getLast? = some 47 := by simpa [endsSlash] using h.2
        rw [hr] at he
        rcases r with _ | ⟨y, r⟩
        · rw [hr, pt_slash, if_pos rfl, pt_nil, if_pos rfl] at hb
          have : partsOf t = [] := by simpa using hb
          rw [this] at h
          cases h.1
        · rw [List.getLast?_cons_cons] at he
          rw [if_pos he]
          split <;> simp
      · rw [if_neg h]; exact Nat.zero_le _
    rw [List.length_nil, Nat.zero_add] at hp
    omega
/-- a path as bytes -/
def joinB (l : List ByteArray) (b : Bool) : ByteArray := ⟨(joinS l ++ if b then [47] else []).toArray⟩
theorem bys_joinB (l : List ByteArray) (b : Bool) : bys (joinB l b) = joinS l ++ if b then [47] else [] := by simp [bys, joinB]
theorem joinB_size (l : List ByteArray) (b : Bool) : (joinB l b).size = (joinS l).length + if b then 1 else 0 := by
  rw [← bys_length, bys_joinB]
  cases b <;> simp
theorem joinS_ne {l : List ByteArray} (h : l ≠ []) : ∃ r, joinS l = 47 :: r := by
  cases l with
  | nil => exact absurd rfl h
  | cons p l => exact ⟨_, rfl⟩
/-- what is told is read as the path -/
theorem join_parse {l : List ByteArray} {b : Bool} (h0 : l ≠ []) (hg : ∀ p ∈ l, good p) (hs : (joinS l).length ≤ room b) : errOf (joinB l b) = 0 ∧ partsOf (joinB l b) = l ∧ slashOf (joinB l b) = b := by
  have hp : pt [] (bys (joinB l b)) = l.map bys := by
    rw [bys_joinB, joinS_flat]
    refine pt_join _ _ (fun p hp => ?_)
    obtain ⟨x, hx, rfl⟩ := List.mem_map.1 hp
    exact ⟨fun e => (hg x hx).1 (bys_nil.1 e), (hg x hx).2.2.1⟩
  have he := parts_eq hp
  have hem : l.isEmpty = false := by cases l with
    | nil => exact absurd rfl h0
    | cons a l => rfl
  obtain ⟨r, hr⟩ := joinS_ne h0
  refine ⟨err_ok.2 ⟨?_, ?_, ?_, ?_⟩, he, ?_⟩
  · rw [joinB_size]
    unfold room at hs
    cases b <;> simp at hs ⊢ <;> omega
  · rw [bys_joinB, hr]; rfl
  · rw [bys_joinB]
    intro h
    rcases List.mem_append.1 h with h | h
    · obtain ⟨p, hp, h⟩ := List.mem_flatMap.1 h
      rcases List.mem_cons.1 h with h | h
      · exact absurd h (by decide)
      · exact (hg p hp).2.2.2 h
    · cases b <;> simp at h
  · rintro ⟨p, hp', h⟩
    rw [hp] at hp'
    obtain ⟨x, hx, rfl⟩ := List.mem_map.1 hp'
    rw [bys_length] at h
    have := (hg x hx).2.1
    omega
  · unfold slashOf
    rw [he, hem]
    unfold endsSlash
    rw [bys_joinB]
    cases b
    · rcases List.eq_nil_or_concat l with rfl | ⟨q, z, rfl⟩
      · exact absurd rfl h0
      · have hz := hg z (by simp)
        rw [List.concat_eq_append, joinS_snoc]
        rcases List.eq_nil_or_concat (bys z) with e | ⟨q', x, e⟩
        · exact absurd (bys_nil.1 e) hz.1
        · have hx : x ≠ 47 := fun hx => hz.2.2.1 (by rw [e, hx]; simp)
          rw [e, List.concat_eq_append]
          simp only [Bool.false_eq_true, if_false, List.append_nil]
          rw [← List.cons_append, ← List.append_assoc, List.getLast?_concat]
          simp [hx]
    · simp
theorem textOf_join {l : List ByteArray} {b : Bool} (h0 : l ≠ []) : textOf l b = if (∀ p ∈ l, good p) ∧ (joinS l).length ≤ room b then joinB l b else ByteArray.empty := by
  unfold textOf
  rw [if_neg h0]
  rfl
/-- the text, by what it would be read as -/
theorem text_read {l : List ByteArray} {b : Bool} (h : ¬ (l = [] ∧ b = false)) : textOf l b = if errOf (joinB l b) = 0 ∧ sameP l b (partsOf (joinB l b)) (slashOf (joinB l b)) = true then joinB l b else ByteArray.empty := by
  by_cases h0 : l = []
  · subst h0
    obtain rfl : b = true := by simpa using h
    rw [if_neg]
    · rfl
    · rintro ⟨_, h⟩
      have h := (of_decide_eq_true h).2
      have hp : partsOf (joinB [] true) = [] := parts_eq (by rw [bys_joinB]; rfl)
      unfold slashOf at h
      rw [hp] at h
      cases h
  · rw [textOf_join h0]
    by_cases hg : (∀ p ∈ l, good p) ∧ (joinS l).length ≤ room b
    · obtain ⟨a, c, d⟩ := join_parse h0 hg.1 hg.2
      rw [if_pos hg, if_pos ⟨a, by rw [c, d, sameP_rfl]⟩]
    · rw [if_neg hg, if_neg]
      rintro ⟨he, hs⟩
      obtain ⟨e1, e2⟩ := of_decide_eq_true hs
      obtain ⟨p1, p2, p3, _⟩ := parse_good he
      rw [← e1, ← e2] at p2
      rw [← e1] at p1
      refine hg ⟨p1, ?_⟩
      unfold room
      cases b <;> simp at p2 ⊢ <;> omega

theorem Below.drewN {n : Nat} {w W : World} (h : Below n w W) (k : Nat) : Below n w (W.drewN k) := ⟨h.os, h.tape, h.output, h.size, h.block⟩
theorem below_up {n : Nat} {a b c : World} (hn : n ≤ a.heap.size) (h : Below n a b) (k : Below b.heap.size b c) : Below n a c :=
  ⟨k.os.trans h.os, k.tape.trans h.tape, k.output.trans h.output, Nat.le_trans h.size k.size, fun x hx => (k.block x (Nat.lt_of_lt_of_le hx (Nat.le_trans hn h.size))).trans (h.block x hx)⟩

end Go.Proofs.YtpombeiabgbpiaaDoor
