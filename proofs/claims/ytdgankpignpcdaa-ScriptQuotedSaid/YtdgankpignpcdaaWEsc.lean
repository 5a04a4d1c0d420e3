/-
What script.escape computes: of a text behind a backslash, from its first three bytes.
-/
import Derived.Test.YtdgankpignpcdaaPScriptUnquotesx1
import Derived.Laws.StandIn
import Derived.Lib.Hide
namespace Go.Proofs.Ytdgankpignpcdaa
open Go.RowKit Go.Proofs.YtdgankpignpcdaaW.PrintWords Go.Proofs.YtdgankpignpcdaaW.PrintLast

def digits : ByteArray := ⟨#[48, 49, 50, 51, 52, 53, 54, 55, 56, 57, 97, 98, 99, 100, 101, 102]⟩
/-- a digit's value; -1: it is none -/
def hexOf (c : Int) : Int := if 48 ≤ c ∧ c ≤ 57 then c - 48 else if 97 ≤ c ∧ c ≤ 102 then c - 87 else -1
theorem hexOf_lt (c : Int) : -1 ≤ hexOf c ∧ hexOf c < 16 := by unfold hexOf; split <;> (try split) <;> omega
theorem firstIdx_digits : ∀ n : Fin 256, firstIdx digits ((n.val : Int).toNat.toUInt8) = hexOf (n.val : Int) := by decide +kernel
theorem fin_byte {c : Int} (h0 : 0 ≤ c) (h1 : c ≤ 255) : ∃ n : Fin 256, (n.val : Int) = c := ⟨⟨c.toNat, by omega⟩, by simp; omega⟩

theorem index17 (c : Int) (h0 : 0 ≤ c) (h1 : c ≤ 255) (w : World) : Calls Try.prog 17 #[.string digits, .int .u8 c] w fun e w' => e = .returned (.int .i64 (hexOf c)) ∧ w = w' := by
  have h := run_callFunc_indexByte (P := Try.prog) (f := 18) Try.func18 (by kernel_rfl) (by kernel_rfl) (by kernel_rfl) (by kernel_rfl) #[.string digits, .int .u8 c] w
  rw [run_indexByte_string] at h
  have e : firstIdx digits c.toNat.toUInt8 = hexOf c := by
    obtain ⟨n, hn⟩ := fin_byte h0 h1
    rw [← hn]; exact firstIdx_digits n
  rw [e] at h
  simp only [Result.andThen_ok] at h
  go_enter Try.func17, Try.ntmps17
  go_wp2_with fail
  go_ret
  exact ⟨rfl, rfl⟩

theorem index15 (c : Int) (h0 : 0 ≤ c) (h1 : c ≤ 255) (w : World) : Calls Try.prog 15 #[.string digits, .int .u8 c] w fun e w' => e = .returned (.int .i64 (hexOf c)) ∧ w = w' := by
  have H := Lib.hid (index17 c h0 h1 w)
  go_enter Try.func15, Try.ntmps15
  go_wp2_with fail
  refine H.out.mono ?_
  rintro e w' ⟨rfl, rfl⟩
  go_wp2_with fail
  go_ret
  exact ⟨rfl, rfl⟩

theorem quietR {P : Program} {f : FuncId} {args : Array Value} {w : World} {n : Nat} {v : Value}
    (h : Calls P f args (w.drewN n) fun e w' => e = .returned v ∧ w.drewN n = w') : Calls P f args (w.drewN n) fun e w'' => e = .returned v ∧ ∃ m, w'' = w.drewN m :=
  h.mono fun _ _ ⟨he, hm⟩ => ⟨he, n, hm.symm⟩

/-- what stands behind a backslash: n bytes, the first three given -/
def escN (n : Nat) (c0 c1 c2 : Int) : Int × Int :=
  if n = 0 then (0, 0) else if c0 = 34 ∨ c0 = 92 then (c0, 1) else if c0 = 110 then (10, 1)
  else if c0 = 120 then if n < 3 then (0, 0) else if 0 ≤ hexOf c1 ∧ 0 ≤ hexOf c2 then (hexOf c1 * 16 + hexOf c2, 3) else (0, 0)
  else (0, 0)

theorem join_hex : ∀ a b : Fin 16, bits .or .i64 ((a.val : Int) * 16) (b.val : Int) = (a.val : Int) * 16 + (b.val : Int) := by decide +kernel
theorem join_any {a b : Int} (a0 : 0 ≤ a) (a1 : a < 16) (b0 : 0 ≤ b) (b1 : b < 16) : bits .or .i64 (a * 16) b = a * 16 + b := by
  have := join_hex ⟨a.toNat, by omega⟩ ⟨b.toNat, by omega⟩
  simpa [Int.toNat_of_nonneg a0, Int.toNat_of_nonneg b0] using this
theorem toList_nil {s : ByteArray} (h : s.size = 0) : s.toList = [] := by
  rw [ByteArray.toList_eq]
  exact List.eq_nil_of_length_eq_zero (by rw [data_length]; exact h)
theorem toList_ne {s : ByteArray} (h : s.size ≠ 0) : (s.toList == ([] : List UInt8)) = false := by
  rw [beq_eq_false_iff_ne, ByteArray.toList_eq]
  intro e
  have := congrArg List.length e
  rw [data_length] at this
  exact h this

theorem escape_nil (s : ByteArray) (hn : s.size = 0) (w : World) :
    Calls Try.prog 11 #[.string s] w fun e w' => e = .returned (.tuple #[.int .u8 0, .int .i64 0]) ∧ Drawn0 w w' := by
  have h := toList_nil hn
  have h1 : (s.toList == ([] : List UInt8)) = true := by rw [h]; rfl
  clear h
  go_enter Try.func11, Try.ntmps11
  go_wp2
  go_ret2
  exact ⟨rfl, Drawn0.refl _⟩

set_option maxHeartbeats 1000000 in
/-- the byte itself -/
theorem escape_self (s : ByteArray) (hn : s.size ≠ 0) (w : World) (c : Int) (hc : bt s 0 = c) (h : c = 34 ∨ c = 92) :
    Calls Try.prog 11 #[.string s] w fun e w' => e = .returned (.tuple #[.int .u8 c, .int .i64 1]) ∧ Drawn0 w w' := by
  have h1 := toList_ne hn
  have q : (0 < s.size) = True := eq_true (by omega)
  have q' : (0 < (s.size : Int)) = True := eq_true (by omega)
  have hx : ∀ h : 0 < s.size, ((s[0]'h).toNat : Int) = bt s 0 := bt_at s 0
  rw [hc] at hx
  clear hc hn
  by_cases h34 : c = 34
  · subst h34
    go_enter Try.func11, Try.ntmps11
    go_wp2
    go_ret2
    exact ⟨rfl, Drawn0.refl _⟩
  · have h92 : c = 92 := by omega
    subst h92
    go_enter Try.func11, Try.ntmps11
    go_wp2
    go_ret2
    exact ⟨rfl, Drawn0.refl _⟩

set_option maxHeartbeats 1000000 in
/-- a line feed -/
theorem escape_n (s : ByteArray) (hn : s.size ≠ 0) (w : World) (hc : bt s 0 = 110) :
    Calls Try.prog 11 #[.string s] w fun e w' => e = .returned (.tuple #[.int .u8 10, .int .i64 1]) ∧ Drawn0 w w' := by
  have h1 := toList_ne hn
  have q : (0 < s.size) = True := eq_true (by omega)
  have q' : (0 < (s.size : Int)) = True := eq_true (by omega)
  have hx : ∀ h : 0 < s.size, ((s[0]'h).toNat : Int) = bt s 0 := bt_at s 0
  rw [hc] at hx
  clear hc hn
  go_enter Try.func11, Try.ntmps11
  go_wp2
  go_ret2
  exact ⟨rfl, Drawn0.refl _⟩

set_option maxHeartbeats 1000000 in
/-- none of the four -/
theorem escape_bad (s : ByteArray) (hn : s.size ≠ 0) (w : World) (c : Int) (hc : bt s 0 = c) (e1 : c ≠ 34) (e2 : c ≠ 92) (e3 : c ≠ 110) (e4 : c ≠ 120) :
    Calls Try.prog 11 #[.string s] w fun e w' => e = .returned (.tuple #[.int .u8 0, .int .i64 0]) ∧ Drawn0 w w' := by
  have h1 := toList_ne hn
  have q : (0 < s.size) = True := eq_true (by omega)
  have q' : (0 < (s.size : Int)) = True := eq_true (by omega)
  have hx : ∀ h : 0 < s.size, ((s[0]'h).toNat : Int) = bt s 0 := bt_at s 0
  rw [hc] at hx
  have b1 : (c == 34) = false := by simpa using e1
  have b2 : (c == 92) = false := by simpa using e2
  have b3 : (c == 110) = false := by simpa using e3
  have b4 : (c == 120) = false := by simpa using e4
  clear hc hn e1 e2 e3 e4
  go_enter Try.func11, Try.ntmps11
  go_wp2
  go_ret2
  exact ⟨rfl, Drawn0.refl _⟩

set_option maxHeartbeats 1000000 in
/-- too short for two digits -/
theorem escape_short (s : ByteArray) (hn : s.size ≠ 0) (w : World) (hc : bt s 0 = 120) (h3 : s.size < 3) :
    Calls Try.prog 11 #[.string s] w fun e w' => e = .returned (.tuple #[.int .u8 0, .int .i64 0]) ∧ Drawn0 w w' := by
  have h1 := toList_ne hn
  have q : (0 < s.size) = True := eq_true (by omega)
  have q' : (0 < (s.size : Int)) = True := eq_true (by omega)
  have hx : ∀ h : 0 < s.size, ((s[0]'h).toNat : Int) = bt s 0 := bt_at s 0
  rw [hc] at hx
  have b1 : decide ((s.size : Int) < 3) = true := decide_eq_true (by omega)
  clear hc hn h3
  go_enter Try.func11, Try.ntmps11
  go_wp2
  go_ret2
  exact ⟨rfl, Drawn0.refl _⟩

set_option maxHeartbeats 1000000 in
/-- two digits or not -/
theorem escape_x (s : ByteArray) (w : World) (hc : bt s 0 = 120) (h3 : 3 ≤ s.size) (a b : Int) (ha : bt s 1 = a) (hb : bt s 2 = b) :
    Calls Try.prog 11 #[.string s] w fun e w' => e = .returned (.tuple #[.int .u8 (if 0 ≤ hexOf a ∧ 0 ≤ hexOf b then hexOf a * 16 + hexOf b else 0), .int .i64 (if 0 ≤ hexOf a ∧ 0 ≤ hexOf b then 3 else 0)]) ∧ Drawn0 w w' := by
  have h1 := toList_ne (s := s) (by omega)
  have q : (0 < s.size) = True := eq_true (by omega)
  have q' : (0 < (s.size : Int)) = True := eq_true (by omega)
  have q1 : (1 < s.size) = True := eq_true (by omega)
  have q1' : (1 < (s.size : Int)) = True := eq_true (by omega)
  have q2 : (2 < s.size) = True := eq_true (by omega)
  have q2' : (2 < (s.size : Int)) = True := eq_true (by omega)
  have hx : ∀ h : 0 < s.size, ((s[0]'h).toNat : Int) = bt s 0 := bt_at s 0
  have hx1 : ∀ h : 1 < s.size, ((s[1]'h).toNat : Int) = bt s 1 := bt_at s 1
  have hx2 : ∀ h : 2 < s.size, ((s[2]'h).toNat : Int) = bt s 2 := bt_at s 2
  rw [hc] at hx
  rw [ha] at hx1
  rw [hb] at hx2
  obtain ⟨a0, a1⟩ := bt_range s 1
  obtain ⟨b0, b1⟩ := bt_range s 2
  rw [ha] at a0 a1
  rw [hb] at b0 b1
  have IA := fun W => Lib.hid (index15 a a0 a1 W)
  have IB := fun W => Lib.hid (index15 b b0 b1 W)
  have HA := hexOf_lt a
  have HB := hexOf_lt b
  have dlt : decide ((s.size : Int) < 3) = false := decide_eq_false (by omega)
  clear hc h3 ha hb a0 a1 b0 b1
  generalize hexOf a = x at *
  generalize hexOf b = y at *
  go_enter Try.func11, Try.ntmps11
  go_wp2_with fail
  go_quiet (first | (go_at_call 15; exact quietR (IA _).out) | (go_at_call 15; exact quietR (IB _).out))
  clear IA IB hx hx1 hx2 q q' q1 q1' q2 q2' dlt h1
  obtain ⟨x0, x1⟩ := HA
  obtain ⟨y0, y1⟩ := HB
  by_cases hx : 0 ≤ x
  · by_cases hy : 0 ≤ y
    · have e1 := join_any hx x1 hy y1
      have f1 : decide (0 ≤ x) = true := decide_eq_true hx
      have f2 : decide (0 ≤ y) = true := decide_eq_true hy
      have r : 0 ≤ x * 16 + y ∧ x * 16 + y < 256 := by omega
      go_wp2_with fail
      go_ret2
      exact ⟨rfl, nq, rfl⟩
    · have f1 : decide (0 ≤ x) = true := decide_eq_true hx
      have f2 : decide (0 ≤ y) = false := decide_eq_false hy
      go_wp2_with fail
      go_ret2
      exact ⟨rfl, nq, rfl⟩
  · have f1 : decide (0 ≤ x) = false := decide_eq_false hx
    go_wp2_with fail
    go_ret2
    exact ⟨rfl, nq, rfl⟩

theorem escape_any (s : ByteArray) (w : World) :
    Calls Try.prog 11 #[.string s] w fun e w' => e = .returned (.tuple #[.int .u8 (escN s.size (bt s 0) (bt s 1) (bt s 2)).1, .int .i64 (escN s.size (bt s 0) (bt s 1) (bt s 2)).2]) ∧ Drawn0 w w' := by
  unfold escN
  by_cases hn : s.size = 0
  · rw [if_pos hn]; exact escape_nil s hn w
  · rw [if_neg hn]
    by_cases h1 : bt s 0 = 34 ∨ bt s 0 = 92
    · rw [if_pos h1]; exact escape_self s hn w _ rfl h1
    · rw [if_neg h1]
      by_cases h2 : bt s 0 = 110
      · rw [if_pos h2]; exact escape_n s hn w h2
      · rw [if_neg h2]
        by_cases h3 : bt s 0 = 120
        · rw [if_pos h3]
          by_cases h4 : s.size < 3
          · rw [if_pos h4]; exact escape_short s hn w h3 h4
          · rw [if_neg h4]
            have h := escape_x s w h3 (by omega) _ _ rfl rfl
            split
            · rename_i h5; rw [if_pos h5, if_pos h5] at h; exact h
            · rename_i h5; rw [if_neg h5, if_neg h5] at h; exact h
        · rw [if_neg h3]
          exact escape_bad s hn w _ rfl (fun h => h1 (.inl h)) (fun h => h1 (.inr h)) h2 h3

end Go.Proofs.Ytdgankpignpcdaa
