/-
What script.Unquote computes: the text within quotes at the beginning, and how many bytes it takes. The text at most a thousand million bytes.
-/
import Derived.Test.YtdgankpignpcdaaWEsc
import Derived.KernelRfl
import Derived.WalkMore
namespace Go.Proofs.Ytdgankpignpcdaa
open Go.RowKit Go.Proofs.YtdgankpignpcdaaW.PrintWords Go.Proofs.YtdgankpignpcdaaW.PrintLast Go.Proofs.YtdgankpignpcdaaW.PrintMore
set_option linter.unusedVariables false

/-- what stands at a place within quotes, n bytes from there on, the first four given; no quote -/
def unitN (n : Nat) (c0 c1 c2 c3 : Int) : Int × Int :=
  if c0 = 92 then (if (escN (n - 1) c1 c2 c3).2 = 0 then (0, 0) else ((escN (n - 1) c1 c2 c3).1, (escN (n - 1) c1 c2 c3).2 + 1))
  else if c0 < 32 ∨ 126 < c0 then (0, 0) else (c0, 1)
def badQ : ByteArray × Int × Int := (⟨#[]⟩, 0, 194)
def unitAt (s : ByteArray) (i : Nat) : Int × Int := unitN (s.size - i) (bt s i) (bt s ((i + 1 : Nat) : Int)) (bt s ((i + 2 : Nat) : Int)) (bt s ((i + 3 : Nat) : Int))
/-- from the place i on, in at most m rounds -/
def unqL (s : ByteArray) : Nat → List Int → Nat → ByteArray × Int × Int
  | 0, _, _ => badQ
  | m + 1, acc, i =>
    if i < s.size then (if bt s i = 34 then (strOfNums acc, ((i + 1 : Nat) : Int), 0)
      else if (unitAt s i).2 = 0 then badQ else unqL s m (acc ++ [(unitAt s i).1]) (i + (unitAt s i).2.toNat))
    else badQ
def unq (s : ByteArray) : ByteArray × Int × Int := if s.size = 0 then badQ else if bt s 0 = 34 then unqL s s.size [] 1 else badQ

theorem escN_range (n : Nat) (c0 c1 c2 : Int) (h0 : 0 ≤ c0) (h1 : c0 ≤ 255) : (escN n c0 c1 c2).2 = 0 ∨ ((escN n c0 c1 c2).2 = 1 ∧ 1 ≤ n) ∨ ((escN n c0 c1 c2).2 = 3 ∧ 3 ≤ n) := by
  unfold escN
  repeat' split
  all_goals simp <;> omega
theorem bt_ext (s : ByteArray) (a j : Nat) : bt (s.extract a s.size) (j : Int) = bt s ((a + j : Nat) : Int) := by
  unfold bt
  simp only [Int.toNat_natCast]
  by_cases h : j < (s.extract a s.size).size
  · have h' : a + j < s.size := by simp [ByteArray.size_extract] at h; omega
    rw [dif_pos h, dif_pos h', ByteArray.getElem_extract]
  · have h' : ¬ a + j < s.size := by simp [ByteArray.size_extract] at h; omega
    rw [dif_neg h, dif_neg h']

abbrev Own (w0 w : World) (v : Value) (acc : List Int) : Prop := Aside0 (Kd.R (Kd.int .u8) 5 w w0.heap.size (fun _ => True) v acc)

theorem unquote_bad (s : ByteArray) (w : World) (h : s.size = 0 ∨ (s.size ≠ 0 ∧ bt s 0 ≠ 34)) :
    Calls Try.prog 8 #[.string s] w fun e w' => e = .returned (.tuple #[.string ⟨#[]⟩, .int .i64 0, .int .i64 194]) ∧ Below w.heap.size w w' := by
  rcases h with hn | ⟨hn, hc⟩
  · have h1 : (s.toList == ([] : List UInt8)) = true := by rw [toList_nil hn]; rfl
    go_enter Try.func8, Try.ntmps8
    go_wp2
    go_step3
    go_wp2
    rw [Exit.noGoto_ret]
    go_ret3
    exact ⟨rfl, Below.refl _ _⟩
  · have h1 := toList_ne hn
    have q : (0 < s.size) = True := eq_true (by omega)
    have q' : (0 < (s.size : Int)) = True := eq_true (by omega)
    have hx : ∀ h : 0 < s.size, ((s[0]'h).toNat : Int) = bt s 0 := bt_at s 0
    generalize bt s 0 = c at *
    have b1 : (c != 34) = true := by simpa using hc
    clear hc
    go_enter Try.func8, Try.ntmps8
    go_wp2
    go_step3
    go_wp2
    rw [Exit.noGoto_ret]
    go_ret3
    exact ⟨rfl, Below.refl _ _⟩

set_option maxHeartbeats 4000000 in
theorem unquote_good (s : ByteArray) (w : World) (hn : s.size ≠ 0) (hc : bt s 0 = 34) (hs : s.size ≤ 1000000000) (R : ByteArray × Int × Int) (hR : unqL s s.size [] 1 = R) :
    Calls Try.prog 8 #[.string s] w fun e w' => e = .returned (.tuple #[.string R.1, .int .i64 R.2.1, .int .i64 R.2.2]) ∧ Below w.heap.size w w' := by
  have h1 := toList_ne hn
  have q : (0 < s.size) = True := eq_true (by omega)
  have q' : (0 < (s.size : Int)) = True := eq_true (by omega)
  have hx : ∀ h : 0 < s.size, ((s[0]'h).toNat : Int) = bt s 0 := bt_at s 0
  rw [hc] at hx
  have HR := Lib.hid hR
  clear hc hn hR
  go_enter Try.func8, Try.ntmps8
  go_wp2
  go_step3
  go_wp2_with fail
  go_step3
  go_wp2_with fail
  go_loopw [5, 6] (fun v5 v6 wr => ∃ (acc : List Int) (i m : Nat), v6 = .int .i64 i ∧ Hid (unqL s m acc i = R) ∧ s.size ≤ i + m ∧ i ≤ s.size ∧ acc.length ≤ i ∧ Own w wr v5 acc ∧ Aside0 (Below w.heap.size w wr)) (fun _ v6 _ => s.size - (intOf v6).toNat)
  case atStart => exact ⟨[], 1, s.size, rfl, HR, Nat.le_add_left _ _, Nat.succ_le_of_lt (of_eq_true q), Nat.zero_le _, ⟨Kd.R_nil _ _ _ _ _⟩, ⟨Below.refl _ _⟩⟩
  case round =>
    clear h1 q q' hx HR
    obtain ⟨acc, i, m, rfl, HR, hm, hi, ha, HO, HB⟩ := hrel
    by_cases hlt : i < s.size
    · obtain ⟨m, rfl⟩ : ∃ m', m = m' + 1 := ⟨m - 1, by omega⟩
      have H : Hid ((if bt s i = 34 then (strOfNums acc, ((i + 1 : Nat) : Int), 0) else if (unitAt s i).2 = 0 then badQ else unqL s m (acc ++ [(unitAt s i).1]) (i + (unitAt s i).2.toNat)) = R) := by
        have := HR.out
        unfold unqL at this
        rwa [if_pos hlt] at this
      clear HR
      obtain ⟨c0, c1⟩ := bt_range s (i : Int)
      have d1 : decide ((i : Int) < (s.size : Int)) = true := decide_eq_true (by omega)
      have p9 : (0 ≤ (i : Int)) = True := eq_true (by omega)
      have q9 : ((i : Int) < (s.size : Int)) = True := eq_true (by omega)
      have q8 : (i < s.size) = True := eq_true hlt
      have hx9 : ∀ h : i < s.size, ((s[i]'h).toNat : Int) = bt s (i : Int) := bt_at s (i : Int)
      by_cases h34 : bt s i = 34
      · rw [h34] at hx9
        have H2 : Hid ((strOfNums acc, ((i + 1 : Nat) : Int), 0) = R) := by
          have := H.out; rwa [if_pos h34] at this
        obtain rfl := H2.out
        clear H H2 h34
        have hcv := own_string (P := Try.prog) Try.underlying28 Try.underlying5 Try.underlying9 (Kd.own_of_R HO.out)
        go_wp2_with fail
        rw [Exit.noGoto_ret]
        go_ret3
        exact ⟨by simp, HB.out⟩
      · have H2 : Hid ((if (unitAt s i).2 = 0 then badQ else unqL s m (acc ++ [(unitAt s i).1]) (i + (unitAt s i).2.toNat)) = R) := by
          have := H.out; rwa [if_neg h34] at this
        clear H
        have hu : unitAt s i = unitN (s.size - i) (bt s i) (bt s ((i + 1 : Nat) : Int)) (bt s ((i + 2 : Nat) : Int)) (bt s ((i + 3 : Nat) : Int)) := rfl
        unfold unitN at hu
        have g1 : (bt s i == 34) = false := by simpa using h34
        clear h34
        by_cases h92 : bt s i = 92
        · rw [if_pos h92] at hu
          rw [h92] at hx9 g1
          have he : Hid (∀ W, Calls Try.prog 11 #[.string (s.extract (i + 1) s.size)] W fun e w' => e = .returned (.tuple #[.int .u8 (escN (s.size - i - 1) (bt s ((i + 1 : Nat) : Int)) (bt s ((i + 2 : Nat) : Int)) (bt s ((i + 3 : Nat) : Int))).1, .int .i64 (escN (s.size - i - 1) (bt s ((i + 1 : Nat) : Int)) (bt s ((i + 2 : Nat) : Int)) (bt s ((i + 3 : Nat) : Int))).2]) ∧ Drawn0 W w') := fun W => by
            have := escape_any (s.extract (i + 1) s.size) W
            have e0 := bt_ext s (i + 1) 0
            have e1 := bt_ext s (i + 1) 1
            have e2 := bt_ext s (i + 1) 2
            have e3 : (s.extract (i + 1) s.size).size = s.size - i - 1 := by simp [ByteArray.size_extract]; omega
            rw [e3] at this
            simp only [Nat.add_zero] at e0
            rw [show ((0 : Nat) : Int) = 0 from rfl] at e0
            rw [show ((1 : Nat) : Int) = 1 from rfl] at e1
            rw [show ((2 : Nat) : Int) = 2 from rfl] at e2
            rw [e0, e1, e2] at this
            exact this
          have hr := escN_range (s.size - i - 1) (bt s ((i + 1 : Nat) : Int)) (bt s ((i + 2 : Nat) : Int)) (bt s ((i + 3 : Nat) : Int)) (bt_range _ _).1 (bt_range _ _).2
          generalize escN (s.size - i - 1) (bt s ((i + 1 : Nat) : Int)) (bt s ((i + 2 : Nat) : Int)) (bt s ((i + 3 : Nat) : Int)) = en at *
          obtain ⟨x, n⟩ := en
          by_cases hn0 : n = 0
          · subst hn0
            have hb : badQ = R := by
              have h := H2.out
              rw [hu] at h
              simpa using h
            subst hb
            clear H2 hu hr
            go_wp2_with fail
            refine (he.out _).mono ?_
            rintro e w1 ⟨rfl, nd, rfl⟩
            go_wp2_with fail
            rw [Exit.noGoto_ret]
            go_ret3
            exact ⟨rfl, by rcases HB with ⟨HB⟩; exact pw_below_drewN HB _⟩
          · have hb : Hid (unqL s m (acc ++ [x]) (i + (n + 1).toNat) = R) := by
              have h := H2.out
              rw [hu, if_neg hn0, if_neg (by simp; omega)] at h
              exact h
            have g3 : (n == 0) = false := by simpa using hn0
            have hn1 : n = 1 ∧ i + 2 ≤ s.size ∨ n = 3 ∧ i + 4 ≤ s.size := by simp at hr; omega
            have hn2 : (i : Int) + n + 1 ≤ s.size := by omega
            clear H2 hu hr hn0
            go_wp2_with fail
            refine (he.out _).mono ?_
            rintro e w1 ⟨rfl, nd, rfl⟩
            clear he
            go_wp2_with ((with_reducible refine gate_builtin (b := .append) (xs := #[.tmp 50, .tmp 52]) rfl ?_); at_builtin; refine Kd.R_append (Kd.int .u8) (w0 := w) w.heap.size rfl (.tmp 50) (.tmp 52) 28 5 (.int .u8 0) 1 rfl Try.underlying28 PScriptUnquotes.info5 rfl (by decide) (by omega) u5 acc x [.int .u8 x] (fun _ => True) (fun _ => False) rfl rfl ?aP (fun _ hk => hk.elim) ?aF ?aO ?aB ?aS ?aL ?_; (case aP => exact rfl); (case aB => exact (by repeat (first | (with_reducible first | exact HB.out | apply below_alloc | apply pw_below_drewN | apply below_drew1) | exact HB.out))); (case aF => exact (fun _ _ => trivial)); (case aO => exact (by (with_reducible repeat (first | apply Kd.R_alloc | apply Kd.R_drewN | apply Kd.R_drew)); exact HO.out)); (case aS => exact (below_size (by repeat (first | (with_reducible first | exact HB.out | apply below_alloc | apply pw_below_drewN | apply below_drew1) | exact HB.out)))); (case aL => omega); intro v2 w2 ho hb2 hg hat; have HO2 := Aside0.mk ho; have HB2 := Aside0.mk hb2; clear ho hb2 hg hat HO HB)
            go_roundw
            case rel => exact ⟨acc ++ [x], i + (n + 1).toNat, m, by congr 1; omega, hb, by omega, by omega, by simp; omega, HO2, HB2⟩
            case measure => simp [intOf]; omega
        · rw [if_neg h92] at hu
          have g2 : (bt s i == 92) = false := by simpa using h92
          by_cases hp : bt s i < 32 ∨ 126 < bt s i
          · have hb : badQ = R := by
              have h := H2.out
              rw [hu, if_pos hp] at h
              simpa using h
            subst hb
            rw [if_pos hp] at hu
            clear H2 hu
            generalize bt s i = c at *
            by_cases hp1 : c < 32
            · have f1 : decide (c < 32) = true := decide_eq_true hp1
              go_wp2_with fail
              rw [Exit.noGoto_ret]
              go_ret3
              exact ⟨rfl, HB.out⟩
            · have f1 : decide (c < 32) = false := decide_eq_false hp1
              have f2 : decide (c > 126) = true := decide_eq_true (by omega)
              go_wp2_with fail
              go_ret3
              exact ⟨rfl, HB.out⟩
          · have hb : Hid (unqL s m (acc ++ [bt s i]) (i + 1) = R) := by
              have h := H2.out
              rw [hu, if_neg hp] at h
              simp only [show ¬ ((1 : Int) = 0) from by decide, if_false] at h
              exact h
            clear H2 hu
            generalize bt s i = c at *
            have f1 : decide (c < 32) = false := decide_eq_false (by omega)
            have f2 : decide (c > 126) = false := decide_eq_false (by omega)
            clear hp h92
            go_wp2_with ((with_reducible refine gate_builtin (b := .append) (xs := #[.tmp 26, .tmp 28]) rfl ?_); at_builtin; refine Kd.R_append (Kd.int .u8) (w0 := w) w.heap.size rfl (.tmp 26) (.tmp 28) 28 5 (.int .u8 0) 1 rfl Try.underlying28 PScriptUnquotes.info5 rfl (by decide) (by omega) u5 acc c [.int .u8 c] (fun _ => True) (fun _ => False) rfl rfl ?aP (fun _ hk => hk.elim) ?aF ?aO ?aB ?aS ?aL ?_; (case aP => exact rfl); (case aB => exact (by repeat (first | (with_reducible first | exact HB.out | apply below_alloc | apply pw_below_drewN | apply below_drew1) | exact HB.out))); (case aF => exact (fun _ _ => trivial)); (case aO => exact (by (with_reducible repeat (first | apply Kd.R_alloc | apply Kd.R_drewN | apply Kd.R_drew)); exact HO.out)); (case aS => exact (below_size (by repeat (first | (with_reducible first | exact HB.out | apply below_alloc | apply pw_below_drewN | apply below_drew1) | exact HB.out)))); (case aL => omega); intro v2 w2 ho hb2 hg hat; have HO2 := Aside0.mk ho; have HB2 := Aside0.mk hb2; clear ho hb2 hg hat HO HB)
            go_roundw
            case rel => exact ⟨acc ++ [c], i + 1, m, by go_num, hb, by omega, by omega, by simp; omega, HO2, HB2⟩
            case measure => simp [intOf]; omega
    · obtain rfl : i = s.size := by omega
      have hb : badQ = R := by
        have := HR.out
        cases m with
        | zero => exact this
        | succ m => unfold unqL at this; rwa [if_neg (by omega)] at this
      subst hb
      have d1 : decide ((s.size : Int) < (s.size : Int)) = false := decide_eq_false (by omega)
      clear HR
      go_wp2_with fail
      rw [Exit.noGoto_ret]
      go_ret3
      exact ⟨rfl, HB.out⟩

end Go.Proofs.Ytdgankpignpcdaa
