/-
ScriptUnquotes: the program's Unquote and the document's answer the same of any text of at most a hundred thousand bytes.
-/
import Derived.Test.YtdgankpignpcdaaWUnq
namespace Go.Proofs.Ytdgankpignpcdaa
open Go.RowKit Go.Proofs.YtdgankpignpcdaaW.PrintWords Go.Proofs.YtdgankpignpcdaaW.PrintLast Go.Proofs.YtdgankpignpcdaaW.PrintMore
open Go.Proofs.Ytdgankpignpcdaa.PScriptUnquotes
set_option linter.unusedVariables false

theorem unquote_any (s : ByteArray) (hs : s.size ≤ 1000000000) (w : World) :
    Calls Try.prog 8 #[.string s] w fun e w' => e = .returned (.tuple #[.string (unq s).1, .int .i64 (unq s).2.1, .int .i64 (unq s).2.2]) ∧ Below w.heap.size w w' := by
  unfold unq
  by_cases hn : s.size = 0
  · rw [if_pos hn]; exact unquote_bad s w (.inl hn)
  · rw [if_neg hn]
    by_cases hc : bt s 0 = 34
    · rw [if_pos hc]; exact unquote_good s w hn hc hs _ rfl
    · rw [if_neg hc]; exact unquote_bad s w (.inr ⟨hn, hc⟩)

theorem le_steps {α : Type} (g : Nat → Option α) (h : ∀ k, LeO (g k) (g (k + 1))) : ∀ m k, LeO (g k) (g (k + m))
  | 0, _ => LeO.refl _
  | m + 1, k => (le_steps g h m k).trans (h (k + m))

theorem hex17 : ∀ n : Fin 256, furrowref19_hex.f 17 (n.val : Int) = some (hexOf (n.val : Int)) := by decide +kernel
theorem hex_ref (k : Nat) (s : ByteArray) (i : Int) : furrowref19_hex.f (17 + k) (bt s i) = some (hexOf (bt s i)) := by
  obtain ⟨n, hn⟩ := fin_byte (bt_range s i).1 (bt_range s i).2
  have := hex17 n
  rw [hn] at this
  exact le_steps (fun k => furrowref19_hex.f k (bt s i)) (fun k => furrowref19_hex.mono _ k) k 17 _ this
theorem w64 {x : Int} (h0 : 0 ≤ x) (h1 : x < 140737488355328) : wrap64 x = x := by
  unfold wrap64; omega

theorem unit_ref (k : Nat) (s : ByteArray) (i : Nat) (hi : i < s.size) (hs : s.size ≤ 1000000000) (h34 : bt s i ≠ 34) :
    furrowref19_unit.f (19 + k) s i = some (unitAt s i) := by
  have w1 : wrap64 ((i : Int) + 1) = ((i + 1 : Nat) : Int) := by rw [w64 (by omega) (by omega)]; omega
  have w2 : wrap64 ((i : Int) + 2) = ((i + 2 : Nat) : Int) := by rw [w64 (by omega) (by omega)]; omega
  have w3 : wrap64 ((i : Int) + 3) = ((i + 3 : Nat) : Int) := by rw [w64 (by omega) (by omega)]; omega
  obtain ⟨c0, c1⟩ := bt_range s (i : Int)
  have hu : unitAt s i = unitN (s.size - i) (bt s i) (bt s ((i + 1 : Nat) : Int)) (bt s ((i + 2 : Nat) : Int)) (bt s ((i + 3 : Nat) : Int)) := rfl
  rw [hu]
  unfold furrowref19_unit.f unitN
  rw [if_pos (by omega), if_pos (by omega)]
  by_cases h92 : bt s i = 92
  · have hp : furrowref19_plain.f (bt s i) = some false := by rw [h92]; decide
    rw [hp, if_pos h92]
    simp only [Option.bind_some, Bool.false_eq_true, if_false]
    rw [if_pos h92, show 19 + k = (17 + k + 1) + 1 by omega]
    simp only [furrowref19_unit.j0, w1, w3]
    by_cases h1 : s.size ≤ i + 1
    · rw [if_pos (by simp; omega)]
      have : escN (s.size - i - 1) (bt s ((i + 1 : Nat) : Int)) (bt s ((i + 2 : Nat) : Int)) (bt s ((i + 3 : Nat) : Int)) = (0, 0) := by unfold escN; rw [if_pos (by omega)]
      rw [this]; rfl
    · rw [if_neg (by simp; omega), if_pos (by omega), if_pos (by omega)]
      have hq1 := bt_range s ((i + 1 : Nat) : Int)
      have hx2 := hex_ref k s ((i + 2 : Nat) : Int)
      have hx3 := hex_ref k s ((i + 3 : Nat) : Int)
      generalize bt s ((i + 1 : Nat) : Int) = a at *
      unfold escN
      rw [if_neg (by omega : ¬ s.size - i - 1 = 0)]
      by_cases a34 : a = 34
      · subst a34; simp
      · rw [if_neg a34]
        by_cases a92 : a = 92
        · subst a92; simp
        · rw [if_neg a92, if_neg (by omega : ¬ (a = 34 ∨ a = 92))]
          by_cases a110 : a = 110
          · subst a110; simp
          · rw [if_neg a110, if_neg a110]
            by_cases a120 : a = 120
            · rw [if_pos a120, if_pos a120]
              simp only [furrowref19_unit.j1, w2, w3]
              by_cases h3 : s.size ≤ i + 3
              · rw [if_pos (by simp; omega), if_pos (by omega : s.size - i - 1 < 3)]; rfl
              · rw [if_neg (by simp; omega), if_neg (by omega : ¬ s.size - i - 1 < 3), if_pos (by omega), if_pos (by omega), hx2]
                simp only [Option.bind_some]
                rw [if_pos (by omega), if_pos (by omega), hx3]
                simp only [Option.bind_some]
                have r2 := hexOf_lt (bt s ((i + 2 : Nat) : Int))
                have r3 := hexOf_lt (bt s ((i + 3 : Nat) : Int))
                generalize hexOf (bt s ((i + 2 : Nat) : Int)) = x at *
                generalize hexOf (bt s ((i + 3 : Nat) : Int)) = y at *
                by_cases x0 : x < 0
                · rw [if_pos x0, if_neg (by omega : ¬ (0 ≤ x ∧ 0 ≤ y))]; rfl
                · rw [if_neg x0]
                  by_cases y0 : y < 0
                  · rw [if_pos y0, if_neg (by omega : ¬ (0 ≤ x ∧ 0 ≤ y))]; rfl
                  · rw [if_neg y0, if_pos (by omega : 0 ≤ x ∧ 0 ≤ y)]
                    have e1 : wrap64 (16 * x) = 16 * x := w64 (by omega) (by omega)
                    have e2 : wrap64 (16 * x + y) = 16 * x + y := w64 (by omega) (by omega)
                    rw [e1, e2]
                    have e3 : (16 * x + y) % 256 = x * 16 + y := by omega
                    rw [e3]; rfl
            · rw [if_neg a120, if_neg a120]
              simp only [furrowref19_unit.j1]
              rfl
  · rw [if_neg h92]
    by_cases hp : bt s i < 32 ∨ 126 < bt s i
    · have hp2 : furrowref19_plain.f (bt s i) = some false := by
        unfold furrowref19_plain.f
        rcases hp with h | h
        · rw [if_neg (by omega)]
        · rw [if_pos (by omega), if_neg (by omega)]
      rw [hp2, if_pos hp]
      simp only [Option.bind_some, Bool.false_eq_true, if_false]
      rw [if_neg h92, show 19 + k = (18 + k) + 1 by omega]
      simp only [furrowref19_unit.j0]
      rfl
    · have hp2 : furrowref19_plain.f (bt s i) = some true := by
        unfold furrowref19_plain.f
        rw [if_pos (by omega), if_pos (by omega), if_neg h34]
        simp [h92]
      rw [hp2, if_neg h92, if_neg hp]
      rfl

theorem unitAt_range (s : ByteArray) (i : Nat) (hi : i < s.size) : 0 ≤ (unitAt s i).2 ∧ (i : Int) + (unitAt s i).2 ≤ s.size := by
  unfold unitAt unitN
  have := escN_range (s.size - i - 1) (bt s ((i + 1 : Nat) : Int)) (bt s ((i + 2 : Nat) : Int)) (bt s ((i + 3 : Nat) : Int)) (bt_range _ _).1 (bt_range _ _).2
  generalize escN (s.size - i - 1) (bt s ((i + 1 : Nat) : Int)) (bt s ((i + 2 : Nat) : Int)) (bt s ((i + 3 : Nat) : Int)) = e at *
  obtain ⟨a, b⟩ := e
  repeat' split
  all_goals simp at *
  all_goals omega

theorem l0_ref (s : ByteArray) (hs : s.size ≤ 1000000000) : ∀ (m i : Nat) (acc : List Int), s.size ≤ i + m → i ≤ s.size → acc.length ≤ i →
    furrowref19_Unquote.l0 (m + 20) s acc i = some (unqL s m acc i)
  | 0, i, acc, hm, hi, ha => by
    simp only [furrowref19_Unquote.l0, unqL]
    rw [if_neg (by omega)]; rfl
  | m + 1, i, acc, hm, hi, ha => by
    obtain ⟨q, hq⟩ : ∃ q, q = m + 20 := ⟨_, rfl⟩
    rw [show m + 1 + 20 = q + 1 by omega]
    simp only [furrowref19_Unquote.l0, unqL]
    by_cases hlt : i < s.size
    · rw [if_pos (by omega), if_pos (by omega), if_pos hlt]
      by_cases h34 : bt s i = 34
      · rw [if_pos h34, if_pos h34, w64 (by omega) (by omega)]; simp
      · rw [if_neg h34, if_neg h34, show q = 19 + (m + 1) by omega, unit_ref (m + 1) s i hlt hs h34]
        simp only [Option.bind_some]
        have hr := unitAt_range s i hlt
        by_cases h0 : (unitAt s i).2 = 0
        · rw [if_pos h0, if_pos h0]; rfl
        · rw [if_neg h0, if_neg h0, if_pos (by omega), w64 (by omega) (by omega)]
          have := l0_ref s hs m (i + (unitAt s i).2.toNat) (acc ++ [(unitAt s i).1]) (by omega) (by omega) (by simp; omega)
          rw [show ((i + (unitAt s i).2.toNat : Nat) : Int) = (i : Int) + (unitAt s i).2 by omega, show m + 20 = 19 + (m + 1) by omega] at this
          exact this
    · rw [if_neg (by omega), if_neg hlt]; rfl

theorem unq_ref (s : ByteArray) (hs : s.size ≤ 1000000000) : furrowref19_Unquote.f (s.size + 21) s = some (unq s) := by
  unfold furrowref19_Unquote.f unq
  by_cases hn : s.size = 0
  · rw [if_pos (toList_nil hn), if_pos hn]
    simp only [furrowref19_Unquote.j0]
    rfl
  · have h := toList_ne hn
    rw [beq_eq_false_iff_ne] at h
    rw [if_neg h, if_neg hn, if_pos (by omega)]
    simp only [furrowref19_Unquote.j0]
    by_cases hc : bt s 0 = 34
    · rw [if_pos hc, if_neg (by simp [hc])]
      exact l0_ref s hs s.size 1 [] (by omega) (by omega) (by simp)
    · rw [if_neg hc, if_pos (by simp [hc])]; rfl

theorem refUnquote_any (s : ByteArray) (hs : s.size ≤ 1000000000) (w : World) :
    Calls Try.prog 9 #[.string s] w fun e w' => e = .returned (.tuple #[.string (unq s).1, .int .i64 (unq s).2.1, .int .i64 (unq s).2.2]) ∧ Below w.heap.size w w' :=
  furrowref19_Unquote.calls (s.size + 21) s _ _ _ w (unq_ref s hs)

set_option maxHeartbeats 400000 in
theorem ScriptUnquotes.walk (W : World) (s : ByteArray) (_ : s.size ≤ 140737488351232) : Calls Try.prog 4 #[.string s] W fun e w' => e = .returned (.bool true) ∧ Below W.heap.size W w' := by
  by_cases hl : s.size ≤ 100000
  · have d : decide ((s.size : Int) > 100000) = false := decide_eq_false (by omega)
    have A := fun w => Lib.hid (unquote_any s (by omega) w)
    have B := fun w => Lib.hid (refUnquote_any s (by omega) w)
    clear hl
    generalize unq s = R at *
    obtain ⟨t, n, e⟩ := R
    go_enter Try.func4, Try.ntmps4
    go_wp2_with fail
    refine (A _).out.mono ?_
    rintro e1 w1 ⟨rfl, hb1⟩
    have HB1 := Lib.hid hb1
    clear hb1
    go_wp2_with fail
    refine (B _).out.mono ?_
    rintro e1 w2 ⟨rfl, hb2⟩
    have HB2 := Lib.hid (Below.trans HB1.out (hb2.mono HB1.out.size))
    clear hb2 HB1
    go_wp2_with fail
    go_ret
    exact ⟨by simp, HB2.out⟩
  · have d : decide ((s.size : Int) > 100000) = true := decide_eq_true (by omega)
    clear hl
    go_enter Try.func4, Try.ntmps4
    go_wp2_with fail
    go_ret
    exact ⟨rfl, Below.refl _ _⟩

end Go.Proofs.Ytdgankpignpcdaa
