/- ScriptQuotes, the plain law: both Quotes append the same bytes for each byte of the text. -/
import Derived.Test.YtdgankpignpcdaaPScriptQuotesx2
namespace Go.Proofs.Ytdgankpignpcdaa.Pure
open Go.RowKit Go.Proofs.Ytdgankpignpcdaa.PScriptQuotes Go.Proofs.YtdgankpignpcdaaW.PrintWords Go.Proofs.YtdgankpignpcdaaW.PrintLast

/-- What one byte becomes. -/
def esc (c : Int) : List Int :=
  if c = 10 then [92, 110] else if c = 34 then [92, 34] else if c = 92 then [92, 92]
  else if 32 ≤ c ∧ c ≤ 126 then [c]
  else [92, 120, bt (⟨#[48, 49, 50, 51, 52, 53, 54, 55, 56, 57, 97, 98, 99, 100, 101, 102]⟩ : ByteArray) (c / 16),
    bt (⟨#[48, 49, 50, 51, 52, 53, 54, 55, 56, 57, 97, 98, 99, 100, 101, 102]⟩ : ByteArray) (Go.bits .and .u8 c 15)]

theorem esc_len (c : Int) : (esc c).length ≤ 4 := by
  unfold esc; repeat' split
  all_goals simp

theorem and15 : ∀ n : Fin 256, 0 ≤ Go.bits .and .u8 (n.val : Int) 15 ∧ Go.bits .and .u8 (n.val : Int) 15 < 16 := by decide +kernel
theorem esc_ref : ∀ n : Fin 256, furrowref19_escaped.f (n.val : Int) = some (strOfNums (esc (n.val : Int))) := by decide +kernel
theorem esc_bt : ∀ n : Fin 256, (List.range' 0 (strOfNums (esc (n.val : Int))).size).map (fun j : Nat => bt (strOfNums (esc (n.val : Int))) (j : Int)) = esc (n.val : Int) := by decide +kernel

theorem fin_of {c : Int} (h0 : 0 ≤ c) (h1 : c ≤ 255) : ∃ n : Fin 256, (n.val : Int) = c := ⟨⟨c.toNat, by omega⟩, by simp; omega⟩

theorem le_of_step {α : Type} (g : Nat → Option α) (h : ∀ k, LeO (g k) (g (k + 1))) : ∀ m k, LeO (g k) (g (k + m))
  | 0, _ => LeO.refl _
  | m + 1, k => (le_of_step g h m k).trans (h (k + m))

theorem wrap_small {x : Int} (h0 : 0 ≤ x) (h1 : x < 140737488355328) : wrap64 x = x := by
  unfold wrap64; omega

theorem q_step (k : Nat) (s : ByteArray) (acc : List Int) (i : Nat) (hi : i < s.size) (hs : s.size ≤ 140737488351232) (ha : acc.length < 140737488351232) :
    LeO (script_Quote.l0 k s (acc ++ esc (bt s i)) (s.size : Int) ((i + 1 : Nat) : Int)) (script_Quote.l0 (k + 2) s acc (s.size : Int) (i : Int)) := by
  obtain ⟨c0, c1⟩ := bt_range s (i : Int)
  have hw : wrap64 ((i : Int) + 1) = ((i + 1 : Nat) : Int) := by rw [wrap_small (by omega) (by omega)]; omega
  obtain ⟨n, hn⟩ := fin_of c0 c1
  have hb := and15 n
  rw [hn] at hb
  have hmono := (script_Quote.mono_l k).1
  simp only [script_Quote.l0]
  rw [if_pos (by omega), if_pos (by omega), if_pos (by omega)]
  simp only [Option.bind_some, hw]
  generalize bt s (i : Int) = c at *
  by_cases h10 : c = 10
  · rw [if_pos h10, if_pos (by simp; omega)]
    have : esc c = [92, 110] := by unfold esc; rw [if_pos h10]
    rw [this]
    have := hmono s (acc ++ [92, 110]) (s.size : Int) ((i + 1 : Nat) : Int)
    simpa [script_Quote.l0] using this
  · rw [if_neg h10]
    by_cases hq : c = 34 ∨ c = 92
    · have he : esc c = [92, c] := by
        unfold esc; rw [if_neg h10]
        rcases hq with h | h <;> simp [h]
      rw [he]
      rcases hq with h | h
      · rw [if_pos h]; simp only [script_Quote.j1, h, beq_self_eq_true, if_true, Option.bind_some, hw]
        rw [if_pos (by omega), if_pos (by simp; omega)]
        simpa using LeO.refl _
      · rw [if_neg (by omega)]; simp only [script_Quote.j1, h, beq_self_eq_true, if_true, Option.bind_some, hw]
        rw [if_pos (by omega), if_pos (by simp; omega)]
        simpa using LeO.refl _
    · have h34 : c ≠ 34 := fun h => hq (Or.inl h)
      have h92 : c ≠ 92 := fun h => hq (Or.inr h)
      rw [if_neg h34]
      have hf : (c == 92) = false := by simpa using h92
      rw [hf]
      simp only [script_Quote.j1, Option.bind_some, hw, Bool.false_eq_true, if_false]
      by_cases hp : 32 ≤ c ∧ c ≤ 126
      · have he : esc c = [c] := by unfold esc; rw [if_neg h10, if_neg h34, if_neg h92, if_pos hp]
        rw [if_pos hp.1, if_pos hp.2, if_pos (by omega), he]
        exact LeO.refl _
      · have he : esc c = [92, 120, bt (⟨#[48, 49, 50, 51, 52, 53, 54, 55, 56, 57, 97, 98, 99, 100, 101, 102]⟩ : ByteArray) (c / 16),
            bt (⟨#[48, 49, 50, 51, 52, 53, 54, 55, 56, 57, 97, 98, 99, 100, 101, 102]⟩ : ByteArray) (Go.bits .and .u8 c 15)] := by
          unfold esc; rw [if_neg h10, if_neg h34, if_neg h92, if_neg hp]
        rw [he]
        have hl : ∀ x y : Int, acc.length + ([92, 120, x, y] : List Int).length < 140737488355328 := fun x y => by simp; omega
        have d0 : 0 ≤ c / 16 := by omega
        have d1 : c / 16 < 16 := by omega
        by_cases h32 : 32 ≤ c
        · rw [if_pos h32, if_neg (by omega), if_pos d0, if_pos d1, if_pos hb.1, if_pos hb.2, if_pos (hl _ _)]; exact LeO.refl _
        · rw [if_neg (by omega), if_pos d0, if_pos d1, if_pos hb.1, if_pos hb.2, if_pos (hl _ _)]; exact LeO.refl _

/-- What the text from `i` on, `m` bytes, becomes. -/
def flat (s : ByteArray) : Nat → Nat → List Int
  | _, 0 => []
  | i, m + 1 => esc (bt s i) ++ flat s (i + 1) m

theorem q_all (s : ByteArray) (hs : s.size ≤ 100000) : ∀ (m i : Nat) (acc : List Int), i + m = s.size → acc.length ≤ 1 + 4 * i →
    script_Quote.l0 (2 * m + 1) s acc (s.size : Int) (i : Int) = some (strOfNums (acc ++ flat s i m ++ [34]))
  | 0, i, acc, hi, ha => by
    simp only [script_Quote.l0, flat, List.append_nil]
    rw [if_neg (by omega), if_pos (by omega)]
  | m + 1, i, acc, hi, ha => by
    have := esc_len (bt s i)
    have h := q_all s hs m (i + 1) (acc ++ esc (bt s i)) (by omega) (by simp; omega)
    have h2 := q_step (2 * m + 1) s acc i (by omega) (by omega) (by omega) _ h
    rw [show 2 * (m + 1) + 1 = 2 * m + 1 + 2 by omega, h2]
    simp [flat]

theorem r_in (k : Nat) (s t : ByteArray) (i : Nat) (ht : t.size ≤ 4) (hi : i < 100000) : ∀ (m j : Nat) (acc : List Int), j + m = t.size → acc.length + m ≤ 1000000 →
    LeO (furrowref19_Quote.l0 k s (acc ++ (List.range' j m).map (fun j : Nat => bt t (j : Int))) ((i + 1 : Nat) : Int)) (furrowref19_Quote.l1 (k + m + 1) s acc (i : Int) t (j : Int))
  | 0, j, acc, hj, ha => by
    simp only [furrowref19_Quote.l1, List.range'_zero, List.map_nil, List.append_nil]
    rw [if_neg (by omega), wrap_small (by omega) (by omega)]
    exact LeO.refl _
  | m + 1, j, acc, hj, ha => by
    rw [show k + (m + 1) + 1 = (k + m + 1) + 1 by omega]
    simp only [furrowref19_Quote.l1]
    rw [if_pos (by omega), if_pos (by omega), if_pos (by omega), wrap_small (by omega) (by omega)]
    have h := r_in k s t i ht hi m (j + 1) (acc ++ [bt t (j : Int)]) (by omega) (by simp; omega)
    rw [List.append_assoc] at h
    rw [List.range'_succ, List.map_cons, show (j : Int) + 1 = ((j + 1 : Nat) : Int) by omega]
    exact h

theorem str_size (xs : List Int) : (strOfNums xs).size = xs.length := by simp [strOfNums, ByteArray.size]

theorem r_step (k : Nat) (s : ByteArray) (acc : List Int) (i : Nat) (hi : i < s.size) (hs : s.size ≤ 100000) (ha : acc.length ≤ 900000) :
    LeO (furrowref19_Quote.l0 k s (acc ++ esc (bt s i)) ((i + 1 : Nat) : Int)) (furrowref19_Quote.l0 (k + 6) s acc (i : Int)) := by
  obtain ⟨c0, c1⟩ := bt_range s (i : Int)
  have hl : (esc (bt s i)).length ≤ 4 := esc_len _
  have hr : furrowref19_escaped.f (bt s i) = some (strOfNums (esc (bt s i))) := by
    obtain ⟨n, hn⟩ := fin_of c0 c1
    rw [← hn]; exact esc_ref n
  have hb : (List.range' 0 (strOfNums (esc (bt s i))).size).map (fun j : Nat => bt (strOfNums (esc (bt s i))) (j : Int)) = esc (bt s i) := by
    obtain ⟨n, hn⟩ := fin_of c0 c1
    rw [← hn]; exact esc_bt n
  rw [show k + 6 = (k + 5) + 1 by omega]
  simp only [furrowref19_Quote.l0]
  rw [if_pos (by omega), if_pos (by omega), hr]
  simp only [Option.bind_some]
  have hsz : (strOfNums (esc (bt s i))).size ≤ 4 := by rw [str_size]; exact hl
  have h := r_in k s (strOfNums (esc (bt s i))) i hsz (by omega) (strOfNums (esc (bt s i))).size 0 acc (by omega) (by omega)
  rw [hb] at h
  refine h.trans ?_
  have := le_of_step (fun k => furrowref19_Quote.l1 k s acc (i : Int) (strOfNums (esc (bt s i))) 0) (fun k => (furrowref19_Quote.mono_l k).2 _ _ _ _ _) (4 - (strOfNums (esc (bt s i))).size) (k + (strOfNums (esc (bt s i))).size + 1)
  rw [show k + (strOfNums (esc (bt s i))).size + 1 + (4 - (strOfNums (esc (bt s i))).size) = k + 5 by omega] at this
  exact this

theorem r_all (s : ByteArray) (hs : s.size ≤ 100000) : ∀ (m i : Nat) (acc : List Int), i + m = s.size → acc.length ≤ 1 + 4 * i →
    furrowref19_Quote.l0 (6 * m + 1) s acc (i : Int) = some (strOfNums (acc ++ flat s i m ++ [34]))
  | 0, i, acc, hi, ha => by
    simp only [furrowref19_Quote.l0, flat, List.append_nil]
    rw [if_neg (by omega), if_pos (by omega)]
  | m + 1, i, acc, hi, ha => by
    have := esc_len (bt s i)
    have h := r_all s hs m (i + 1) (acc ++ esc (bt s i)) (by omega) (by simp; omega)
    have h2 := r_step (6 * m + 1) s acc i (by omega) (by omega) (by omega) _ h
    rw [show 6 * (m + 1) + 1 = 6 * m + 1 + 6 by omega, h2]
    simp [flat]

theorem ScriptQuotes : furrowlaw19_ScriptQuotes.Pure := by
  intro a0 _
  by_cases hb : (a0.size : Int) > 100000
  · exact ⟨0, by unfold furrowlaw19_ScriptQuotes.f; rw [if_pos hb]⟩
  · refine ⟨6 * a0.size + 1, ?_⟩
    have hs : a0.size ≤ 100000 := by omega
    have h1 := q_all a0 hs a0.size 0 [34] (by omega) (by simp)
    have h2 := r_all a0 hs a0.size 0 [34] (by omega) (by simp)
    have h1' := le_of_step (fun k => script_Quote.l0 k a0 [34] (a0.size : Int) 0) (fun k => (script_Quote.mono_l k).1 _ _ _ _) (4 * a0.size) (2 * a0.size + 1) _ h1
    unfold furrowlaw19_ScriptQuotes.f script_Quote.f furrowref19_Quote.f
    rw [if_neg hb]
    rw [show 2 * a0.size + 1 + 4 * a0.size = 6 * a0.size + 1 by omega] at h1'
    have h1'' : script_Quote.l0 (6 * a0.size + 1) a0 [34] (a0.size : Int) 0 = _ := h1'
    have h2'' : furrowref19_Quote.l0 (6 * a0.size + 1) a0 [34] 0 = _ := h2
    rw [h1'', h2'']
    simp

#print axioms ScriptQuotes
end Go.Proofs.Ytdgankpignpcdaa.Pure
