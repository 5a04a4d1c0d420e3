/-
text: the text of a number; that of none is empty. (Printed by gen_text.py.)
-/
import Derived.Test.YtfljnfmocmhhdaaSWCopy
import Derived.Laws.BytesArg
namespace Go.Proofs.Ytfljnfmocmhhdaa.Str
open Go.RowKit Go.Shelf
attribute [local go_sem] Oper.semAt_some

/-- the digits of v behind s, the lowest first -/
def txtOn (v : Int) (s : ByteArray) : ByteArray := if v = 0 then s else txtOn (v.tdiv 10) (s ++ strOfNums [48 + ((v.tmod 10).natAbs : Int)])
termination_by v.natAbs
decreasing_by rename_i h; rw [Int.natAbs_tdiv]; exact Nat.div_lt_self (by omega) (by decide)
/-- the text of v -/
def txt (v : Int) : ByteArray := if v = 0 then ByteArray.empty else if v < 0 then txtOn v ⟨#[121]⟩ else txtOn v ⟨#[120]⟩

theorem txtOn_zero (s : ByteArray) : txtOn 0 s = s := by rw [txtOn, if_pos rfl]
theorem txtOn_step {v : Int} (h : v ≠ 0) (s : ByteArray) : txtOn v s = txtOn (v.tdiv 10) (s ++ strOfNums [48 + ((v.tmod 10).natAbs : Int)]) := by rw [txtOn, if_neg h]
theorem txtOn_size (v : Int) (s : ByteArray) : s.size ≤ (txtOn v s).size := by
  induction v, s using txtOn.induct with
  | case1 s => rw [txtOn_zero]; exact Nat.le_refl _
  | case2 v s h ih => rw [txtOn_step h]; refine Nat.le_trans ?_ ih; rw [ByteArray.size_append]; omega
theorem txt_zero : txt 0 = ByteArray.empty := if_pos rfl
theorem txt_no {v : Int} (h : v ≠ 0) : txt v ≠ ByteArray.empty := by
  intro e
  have h1 : 1 ≤ (txt v).size := by
    unfold txt
    rw [if_neg h]
    split
    · exact txtOn_size v ⟨#[121]⟩
    · exact txtOn_size v ⟨#[120]⟩
  rw [e] at h1
  cases h1

theorem txt_eq {a b D E : Int} {s : ByteArray} (h1 : a = b) (h2 : D = E) : txtOn a (s ++ strOfNums [D]) = txtOn b (s ++ strOfNums [E]) := by rw [h1, h2]
theorem conv1 (w : World) (y : Int) : (convert 111 9 (.slice (some ⟨w.heap.size, 0, none⟩) 1 1)).run Try.prog (w.alloc (.cells #[.int .u8 y] 5)) = .ok (.string (strOfNums [y])) (w.alloc (.cells #[.int .u8 y] 5)) :=
  run_convert_bytes_arg _ 111 5 Try.underlying111 Try.underlying5 _ 0 1 1 [y] rfl (fun i hi => by
    obtain rfl : i = 0 := by omega
    rw [Nat.zero_add]; exact cell_one_new _ _ _ 0 _ rfl) 9 Try.underlying9
theorem divs (x : Int) (hx : x ≠ 0) : (x.tdiv 10 = if x < 0 then -(-x / 10) else x / 10) ∧ x.tmod 10 = x - 10 * x.tdiv 10 ∧ (x.tdiv 10).natAbs < x.natAbs := by
  refine ⟨?_, by have := Int.mul_tdiv_add_tmod x 10; omega, by rw [Int.natAbs_tdiv]; exact Nat.div_lt_self (by omega) (by decide)⟩
  split
  · obtain ⟨y, rfl⟩ : ∃ y, x = -y := ⟨-x, by omega⟩
    rw [Int.neg_tdiv, Int.tdiv_eq_ediv_of_nonneg (by omega)]; simp
  · exact Int.tdiv_eq_ediv_of_nonneg (by omega)

set_option maxRecDepth 100000 in
set_option maxHeartbeats 4000000 in
theorem text_any (w : World) (v : Int) (h1 : -9223372036854775808 ≤ v) (h2 : v ≤ 9223372036854775807) :
    Calls Try.prog 27 #[.int .i64 v] w fun e w' => e = .returned (.string (txt v)) ∧ Below w.heap.size w w' := by
  by_cases h0 : v = 0
  · subst h0
    go_enter Try.func27, Try.ntmps27
    go_wp2_with fail
    go_ret
    exact ⟨by rw [txt_zero]; rfl, Below.refl _ _⟩
  · by_cases hn : v < 0
    · have ht : txt v = txtOn v ⟨#[121]⟩ := by rw [txt, if_neg h0, if_pos hn]
      go_enter Try.func27, Try.ntmps27
      go_wp2_with fail
      go_loopw [0, 3] (fun v0 v3 wr => ∃ (x : Int) (s : ByteArray), -9223372036854775808 ≤ x ∧ x ≤ 9223372036854775807 ∧ v0 = .int .i64 x ∧ v3 = .string s ∧ (s.size = 1 ∨ s.size + x.natAbs ≤ 9223372036854775000) ∧ Hid (txtOn x s = txt v ∧ Below w.heap.size w wr)) (fun v0 _ _ => (intOf v0).natAbs)
      case atStart => exact ⟨v, _, h1, h2, rfl, rfl, .inl rfl, ht.symm, Below.refl _ _⟩
      case round =>
        clear ht h1 h2
        obtain ⟨x, s, hx1, hx2, rfl, rfl, hsz, HS⟩ := hrel
        by_cases hx : x = 0
        · subst hx
          go_wp2_with fail
          have HE := Lib.hid (show s = txt v by rw [← HS.out.1, txtOn_zero])
          go_ret
          exact ⟨by rw [← HE.out]; rfl, HS.out.2⟩
        · obtain ⟨hd0, hm0, hlt⟩ := divs x hx
          have HT := Lib.hid (txtOn_step hx s)
          have HL := Lib.hid hlt
          clear hlt
          have kc := conv1
          have ks : ∀ y : Int, (strOfNums [y]).size = 1 := fun _ => rfl
          have hsz1 : s.size ≤ 9223372036854775000 := by omega
          by_cases hm : x < 0
          · rw [if_pos hm] at hd0
            go_wp2_with fail
            all_goals
              refine ⟨⟨_, _, by omega, by omega, rfl, rfl, ?_, (txt_eq hd0.symm (by omega)).trans (HT.out.symm.trans HS.out.1), HS.out.2.alloc HS.out.2.size _⟩, ?_⟩
              · have h3 := HL.out
                rw [ByteArray.size_append, ks]
                omega
              · simp only [intOf]
                rw [← hd0]; exact HL.out
          · rw [if_neg hm] at hd0
            go_wp2_with fail
            all_goals
              refine ⟨⟨_, _, by omega, by omega, rfl, rfl, ?_, (txt_eq hd0.symm (by omega)).trans (HT.out.symm.trans HS.out.1), HS.out.2.alloc HS.out.2.size _⟩, ?_⟩
              · have h3 := HL.out
                rw [ByteArray.size_append, ks]
                omega
              · simp only [intOf]
                rw [← hd0]; exact HL.out

    · have ht : txt v = txtOn v ⟨#[120]⟩ := by rw [txt, if_neg h0, if_neg hn]
      go_enter Try.func27, Try.ntmps27
      go_wp2_with fail
      go_loopw [0, 3] (fun v0 v3 wr => ∃ (x : Int) (s : ByteArray), -9223372036854775808 ≤ x ∧ x ≤ 9223372036854775807 ∧ v0 = .int .i64 x ∧ v3 = .string s ∧ (s.size = 1 ∨ s.size + x.natAbs ≤ 9223372036854775000) ∧ Hid (txtOn x s = txt v ∧ Below w.heap.size w wr)) (fun v0 _ _ => (intOf v0).natAbs)
      case atStart => exact ⟨v, _, h1, h2, rfl, rfl, .inl rfl, ht.symm, Below.refl _ _⟩
      case round =>
        clear ht h1 h2
        obtain ⟨x, s, hx1, hx2, rfl, rfl, hsz, HS⟩ := hrel
        by_cases hx : x = 0
        · subst hx
          go_wp2_with fail
          have HE := Lib.hid (show s = txt v by rw [← HS.out.1, txtOn_zero])
          go_ret
          exact ⟨by rw [← HE.out]; rfl, HS.out.2⟩
        · obtain ⟨hd0, hm0, hlt⟩ := divs x hx
          have HT := Lib.hid (txtOn_step hx s)
          have HL := Lib.hid hlt
          clear hlt
          have kc := conv1
          have ks : ∀ y : Int, (strOfNums [y]).size = 1 := fun _ => rfl
          have hsz1 : s.size ≤ 9223372036854775000 := by omega
          by_cases hm : x < 0
          · rw [if_pos hm] at hd0
            go_wp2_with fail
            all_goals
              refine ⟨⟨_, _, by omega, by omega, rfl, rfl, ?_, (txt_eq hd0.symm (by omega)).trans (HT.out.symm.trans HS.out.1), HS.out.2.alloc HS.out.2.size _⟩, ?_⟩
              · have h3 := HL.out
                rw [ByteArray.size_append, ks]
                omega
              · simp only [intOf]
                rw [← hd0]; exact HL.out
          · rw [if_neg hm] at hd0
            go_wp2_with fail
            all_goals
              refine ⟨⟨_, _, by omega, by omega, rfl, rfl, ?_, (txt_eq hd0.symm (by omega)).trans (HT.out.symm.trans HS.out.1), HS.out.2.alloc HS.out.2.size _⟩, ?_⟩
              · have h3 := HL.out
                rw [ByteArray.size_append, ks]
                omega
              · simp only [intOf]
                rw [← hd0]; exact HL.out

end Go.Proofs.Ytfljnfmocmhhdaa.Str
