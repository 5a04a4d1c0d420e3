/-
ScriptQuoted: what Quote makes is of bytes 32 to 126 alone and at least two longer than the text; Unquote reads it back whole, whatever stands behind; without its last byte, or with a blank ahead of it, it is none. Texts of at most a hundred thousand bytes together.
-/
import Derived.Test.YtdgankpignpcdaaLUnq
import Derived.Test.YtdgankpignpcdaaPureScriptQuotes
namespace Go.Proofs.Ytdgankpignpcdaa
open Go.RowKit Go.Proofs.YtdgankpignpcdaaW.PrintWords Go.Proofs.YtdgankpignpcdaaW.PrintLast Go.Proofs.YtdgankpignpcdaaW.PrintMore
open Go.Proofs.Ytdgankpignpcdaa.Pure (esc flat)
set_option linter.unusedVariables false

/-- the quoted text, as bytes -/
def quoN (s : ByteArray) : List Int := [34] ++ flat s 0 s.size ++ [34]
def quo (s : ByteArray) : ByteArray := strOfNums (quoN s)

theorem quote_any (s : ByteArray) (hs : s.size ≤ 100000) (w : World) :
    Calls Try.prog 6 #[.string s] w fun e w' => e = .returned (.string (quo s)) ∧ Below w.heap.size w w' :=
  PScriptQuotes.script_Quote.calls (2 * s.size + 1) s _ w (by
    have := Pure.q_all s hs s.size 0 [34] (by omega) (by simp)
    unfold PScriptQuotes.script_Quote.f quo quoN
    exact this)

theorem esc_good : ∀ n : Fin 256, (esc (n.val : Int)).all (fun x => decide (32 ≤ x ∧ x ≤ 126)) = true ∧ 1 ≤ (esc (n.val : Int)).length := by decide +kernel

theorem flat_good (s : ByteArray) : ∀ (m i : Nat), (∀ x ∈ flat s i m, 32 ≤ x ∧ x ≤ 126) ∧ m ≤ (flat s i m).length ∧ (flat s i m).length ≤ 4 * m
  | 0, i => by simp [flat]
  | m + 1, i => by
    obtain ⟨h1, h2, h3⟩ := flat_good s m (i + 1)
    obtain ⟨n, hn⟩ := fin_byte (bt_range s i).1 (bt_range s i).2
    obtain ⟨g1, g2⟩ := esc_good n
    rw [hn] at g1 g2
    have g3 := Pure.esc_len (bt s i)
    refine ⟨?_, by simp [flat]; omega, by simp [flat]; omega⟩
    intro x hx
    simp only [flat, List.mem_append] at hx
    rcases hx with hx | hx
    · simpa using List.all_eq_true.1 g1 x hx
    · exact h1 x hx

theorem quoN_good (s : ByteArray) : (∀ x ∈ quoN s, 32 ≤ x ∧ x ≤ 126) ∧ s.size + 2 ≤ (quoN s).length ∧ (quoN s).length ≤ 4 * s.size + 2 := by
  obtain ⟨h1, h2, h3⟩ := flat_good s s.size 0
  refine ⟨?_, by simp [quoN]; omega, by simp [quoN]; omega⟩
  intro x hx
  simp only [quoN, List.mem_append, List.mem_singleton] at hx
  rcases hx with (hx | hx) | hx
  · omega
  · exact h1 x hx
  · omega

theorem quo_size (s : ByteArray) : (quo s).size = (quoN s).length := Pure.str_size _

/-- a byte of a text of numbers, whatever stands behind -/
theorem bt_strOf (l : List Int) (i : Nat) (h : i < l.length) (hl : ∀ x ∈ l, 0 ≤ x ∧ x ≤ 255) : bt (strOfNums l) (i : Int) = l[i] := by
  have hx := hl l[i] (List.getElem_mem h)
  unfold bt strOfNums
  simp only [Int.toNat_natCast]
  rw [dif_pos (by simpa [ByteArray.size] using h)]
  simp [ByteArray.getElem_eq_getElem_data]
  omega
theorem bt_app_left (a b : ByteArray) (i : Nat) (h : i < a.size) : bt (a ++ b) (i : Int) = bt a (i : Int) := by
  unfold bt
  simp only [Int.toNat_natCast]
  rw [dif_pos (by rw [ByteArray.size_append]; omega), dif_pos h, ByteArray.getElem_append_left h]

/-- the bytes of t from i on begin with l -/
def At (t : ByteArray) (i : Nat) (l : List Int) : Prop := ∀ j, (h : j < l.length) → i + j < t.size ∧ bt t ((i + j : Nat) : Int) = l[j]
theorem At.left {t : ByteArray} {i : Nat} {a b : List Int} (h : At t i (a ++ b)) : At t i a := fun j hj => by
  have := h j (by simp; omega)
  rwa [List.getElem_append_left hj] at this
theorem At.right {t : ByteArray} {i : Nat} {a b : List Int} (h : At t i (a ++ b)) : At t (i + a.length) b := fun j hj => by
  have := h (a.length + j) (by simp; omega)
  rw [List.getElem_append_right (by omega)] at this
  simpa [Nat.add_assoc] using this

theorem hex_pair : ∀ n : Fin 256, hexOf (bt (⟨#[48, 49, 50, 51, 52, 53, 54, 55, 56, 57, 97, 98, 99, 100, 101, 102]⟩ : ByteArray) ((n.val : Int) / 16)) = (n.val : Int) / 16 ∧
    hexOf (bt (⟨#[48, 49, 50, 51, 52, 53, 54, 55, 56, 57, 97, 98, 99, 100, 101, 102]⟩ : ByteArray) (Go.bits .and .u8 (n.val : Int) 15)) = (n.val : Int) % 16 := by decide +kernel

theorem unit_esc (t : ByteArray) (i : Nat) (c : Int) (c0 : 0 ≤ c) (c1 : c ≤ 255) (h : At t i (esc c)) :
    i < t.size ∧ bt t i ≠ 34 ∧ unitAt t i = (c, ((esc c).length : Int)) := by
  have two : ∀ d, esc c = [92, d] → (d = 34 ∨ d = 92 ∧ c = d) ∧ c = d ∨ d = 110 ∧ c = 10 → i < t.size ∧ bt t i ≠ 34 ∧ unitAt t i = (c, ((esc c).length : Int)) := by
    intro d hd hk
    rw [hd] at h
    have a0 := h 0 (by simp)
    have a1 := h 1 (by simp)
    simp at a0 a1
    refine ⟨a0.1, by rw [a0.2]; decide, ?_⟩
    rw [hd]
    unfold unitAt unitN
    rw [if_pos a0.2]
    have e1 : bt t ((i + 1 : Nat) : Int) = d := by simpa using a1.2
    rw [e1]
    have e2 : escN (t.size - i - 1) d (bt t ((i + 2 : Nat) : Int)) (bt t ((i + 3 : Nat) : Int)) = (c, 1) := by
      unfold escN
      rw [if_neg (by omega)]
      rcases hk with ⟨hk, rfl⟩ | ⟨rfl, rfl⟩
      · rw [if_pos (by omega)]
      · rw [if_neg (by omega), if_pos rfl]
    rw [e2]
    simp
  by_cases h10 : c = 10
  · exact two 110 (by unfold esc; rw [if_pos h10]) (.inr ⟨rfl, h10⟩)
  · by_cases h34 : c = 34
    · exact two 34 (by unfold esc; rw [if_neg h10, if_pos h34]) (.inl ⟨.inl rfl, h34⟩)
    · by_cases h92 : c = 92
      · exact two 92 (by unfold esc; rw [if_neg h10, if_neg h34, if_pos h92]) (.inl ⟨.inr ⟨rfl, h92⟩, h92⟩)
      · by_cases hp : 32 ≤ c ∧ c ≤ 126
        · have e : esc c = [c] := by unfold esc; rw [if_neg h10, if_neg h34, if_neg h92, if_pos hp]
          rw [e] at h ⊢
          have a0 := h 0 (by simp)
          simp at a0
          refine ⟨a0.1, by rw [a0.2]; exact h34, ?_⟩
          unfold unitAt unitN
          rw [a0.2, if_neg h92, if_neg (by omega)]
          rfl
        · have e : esc c = [92, 120, bt (⟨#[48, 49, 50, 51, 52, 53, 54, 55, 56, 57, 97, 98, 99, 100, 101, 102]⟩ : ByteArray) (c / 16),
              bt (⟨#[48, 49, 50, 51, 52, 53, 54, 55, 56, 57, 97, 98, 99, 100, 101, 102]⟩ : ByteArray) (Go.bits .and .u8 c 15)] := by
            unfold esc; rw [if_neg h10, if_neg h34, if_neg h92, if_neg hp]
          have hh : hexOf (bt (⟨#[48, 49, 50, 51, 52, 53, 54, 55, 56, 57, 97, 98, 99, 100, 101, 102]⟩ : ByteArray) (c / 16)) = c / 16 ∧
              hexOf (bt (⟨#[48, 49, 50, 51, 52, 53, 54, 55, 56, 57, 97, 98, 99, 100, 101, 102]⟩ : ByteArray) (Go.bits .and .u8 c 15)) = c % 16 := by
            obtain ⟨n, hn⟩ := fin_byte c0 c1
            have := hex_pair n
            rwa [hn] at this
          rw [e] at h ⊢
          generalize bt (⟨#[48, 49, 50, 51, 52, 53, 54, 55, 56, 57, 97, 98, 99, 100, 101, 102]⟩ : ByteArray) (c / 16) = x at *
          generalize bt (⟨#[48, 49, 50, 51, 52, 53, 54, 55, 56, 57, 97, 98, 99, 100, 101, 102]⟩ : ByteArray) (Go.bits .and .u8 c 15) = y at *
          have a0 := h 0 (by simp)
          have a1 := h 1 (by simp)
          have a2 := h 2 (by simp)
          have a3 := h 3 (by simp)
          simp only [Nat.add_zero, List.getElem_cons_zero, List.getElem_cons_succ] at a0 a1 a2 a3
          refine ⟨a0.1, by rw [a0.2]; decide, ?_⟩
          unfold unitAt unitN
          rw [if_pos a0.2, a1.2, a2.2, a3.2]
          have e2 : escN (t.size - i - 1) 120 x y = (c, 3) := by
            unfold escN
            rw [if_neg (by omega), if_neg (by omega), if_neg (by omega), if_pos rfl, if_neg (by omega), if_pos (by omega), hh.1, hh.2]
            have : c / 16 * 16 + c % 16 = c := by omega
            rw [this]
          rw [e2]
          simp

/-- the text's own bytes -/
def raw (s : ByteArray) : Nat → Nat → List Int
  | _, 0 => []
  | p, m + 1 => bt s p :: raw s (p + 1) m

theorem unq_flat (s t : ByteArray) : ∀ (k p i m : Nat) (acc : List Int), At t i (flat s p k) → k ≤ m →
    unqL t m acc i = unqL t (m - k) (acc ++ raw s p k) (i + (flat s p k).length)
  | 0, p, i, m, acc, h, hk => by simp [flat, raw]
  | k + 1, p, i, m, acc, h, hk => by
    obtain ⟨m, rfl⟩ : ∃ m', m = m' + 1 := ⟨m - 1, by omega⟩
    simp only [flat] at h
    obtain ⟨u1, u2, u3⟩ := unit_esc t i (bt s p) (bt_range s p).1 (bt_range s p).2 h.left
    have hr := unq_flat s t k (p + 1) (i + (esc (bt s p)).length) m (acc ++ [bt s p]) h.right (by omega)
    have hl : (esc (bt s p)).length ≠ 0 := by
      obtain ⟨n, hn⟩ := fin_byte (bt_range s p).1 (bt_range s p).2
      have := (esc_good n).2
      rw [hn] at this
      omega
    have e : unqL t (m + 1) acc i = (if i < t.size then (if bt t i = 34 then (strOfNums acc, ((i + 1 : Nat) : Int), 0) else if (unitAt t i).2 = 0 then badQ else unqL t m (acc ++ [(unitAt t i).1]) (i + (unitAt t i).2.toNat)) else badQ) := rfl
    rw [e, if_pos u1, if_neg u2, u3]
    simp only [Int.toNat_natCast]
    rw [if_neg (by omega), hr]
    simp only [flat, raw, List.length_append, List.append_assoc, List.singleton_append, Nat.add_assoc]
    rw [show m + 1 - (k + 1) = m - k by omega]

theorem raw_str (s : ByteArray) : strOfNums (raw s 0 s.size) = s := by
  have hl : ∀ (m p : Nat), (raw s p m).length = m := by
    intro m
    induction m with
    | zero => intro p; rfl
    | succ m ih => intro p; simp [raw, ih]
  have hg : ∀ (m p j : Nat) (h : j < (raw s p m).length), (raw s p m)[j] = bt s ((p + j : Nat) : Int) := by
    intro m
    induction m with
    | zero => intro p j h; simp [raw] at h
    | succ m ih =>
      intro p j h
      cases j with
      | zero => simp [raw]
      | succ j =>
        simp only [raw, List.getElem_cons_succ]
        rw [ih (p + 1) j (by simp [raw] at h; omega)]
        congr 1; omega
  apply ByteArray.ext
  apply Array.ext
  · show (strOfNums (raw s 0 s.size)).size = s.size
    rw [Pure.str_size, hl]
  · intro i h1 h2
    simp only [strOfNums, List.getElem_toArray, List.getElem_map]
    rw [hg]
    unfold bt
    have h3 : i < s.size := h2
    simp only [Nat.zero_add, Int.toNat_natCast, h3, dite_true]
    simp [ByteArray.getElem_eq_getElem_data]

theorem at_quo (s b : ByteArray) : At (quo s ++ b) 0 (quoN s) := fun j hj => by
  have hs : j < (quo s).size := by rw [quo_size]; exact hj
  refine ⟨by rw [ByteArray.size_append]; omega, ?_⟩
  rw [Nat.zero_add, bt_app_left _ _ _ hs]
  exact bt_strOf _ _ hj fun x hx => by have := (quoN_good s).1 x hx; omega
theorem At.ext {t u : ByteArray} {i : Nat} {l : List Int} (h : At t i l) (hu : ∀ j, j < l.length → i + j < u.size ∧ bt u ((i + j : Nat) : Int) = bt t ((i + j : Nat) : Int)) : At u i l := fun j hj =>
  ⟨(hu j hj).1, (hu j hj).2.trans (h j hj).2⟩

/-- Unquote of Quote, whatever stands behind -/
theorem unq_quo (s b : ByteArray) : unq (quo s ++ b) = (s, ((quo s).size : Int), 0) := by
  have h := at_quo s b
  have hg := quoN_good s
  have hq := quo_size s
  have hsz : (quo s ++ b).size = (quo s).size + b.size := ByteArray.size_append
  unfold quoN at h
  have h0 := (At.left (At.left h)) 0 (by simp)
  have h1 := At.right (At.left h)
  have h2 := At.right h
  simp only [List.length_append, List.length_singleton, Nat.zero_add] at h1 h2
  have h3 := h2 0 (by simp)
  have hf := (flat_good s s.size 0).2
  have hlen : (quoN s).length = (flat s 0 s.size).length + 2 := by simp [quoN]
  unfold unq
  rw [if_neg (by omega), if_pos (by simpa using h0.2), unq_flat s _ s.size 0 1 _ _ h1 (by omega)]
  obtain ⟨m, hm⟩ : ∃ m, (quo s ++ b).size - s.size = m + 1 := ⟨(quo s ++ b).size - s.size - 1, by omega⟩
  rw [hm]
  simp only [Nat.add_zero, List.getElem_cons_zero] at h3
  simp only [unqL]
  rw [if_pos h3.1, if_pos h3.2, List.nil_append, raw_str]
  congr 2
  omega

/-- without its last byte it is none -/
theorem unq_cut (s : ByteArray) : unq ((quo s).extract 0 ((quo s).size - 1)) = badQ := by
  have hg := quoN_good s
  have hq := quo_size s
  have hf := (flat_good s s.size 0).2
  have hlen : (quoN s).length = (flat s 0 s.size).length + 2 := by simp [quoN]
  have hu : ((quo s).extract 0 ((quo s).size - 1)).size = (quo s).size - 1 := by simp [ByteArray.size_extract]
  have hb : ∀ j, j < (quo s).size - 1 → bt ((quo s).extract 0 ((quo s).size - 1)) (j : Int) = bt (quo s) (j : Int) := fun j hj => by
    unfold bt
    simp only [Int.toNat_natCast]
    rw [dif_pos (by omega), dif_pos (by omega), ByteArray.getElem_extract]
    simp
  have h : At (quo s) 0 (quoN s) := fun j hj => by
    rw [Nat.zero_add]
    exact ⟨by rw [hq]; exact hj, bt_strOf _ _ hj fun x hx => by have := hg.1 x hx; omega⟩
  unfold quoN at h
  have h0 := (At.left (At.left h)) 0 (by simp)
  have h1 := At.right (At.left h)
  simp only [List.length_singleton, Nat.zero_add] at h1
  have h2 : At ((quo s).extract 0 ((quo s).size - 1)) 1 (flat s 0 s.size) := h1.ext fun j hj => ⟨by omega, hb (1 + j) (by omega)⟩
  unfold unq
  rw [if_neg (by omega), if_pos (by rw [show (0 : Int) = ((0 : Nat) : Int) from rfl, hb 0 (by omega)]; simpa using h0.2), unq_flat s _ s.size 0 1 _ _ h2 (by omega)]
  cases hm : ((quo s).extract 0 ((quo s).size - 1)).size - s.size with
  | zero => rfl
  | succ m =>
    simp only [unqL]
    rw [if_neg (by omega)]

/-- with a blank ahead it is none -/
theorem unq_blank (q : ByteArray) : unq ((⟨#[32]⟩ : ByteArray) ++ q) = badQ := by
  have e : bt ((⟨#[32]⟩ : ByteArray) ++ q) 0 = 32 := by
    have := bt_app_left (⟨#[32]⟩ : ByteArray) q 0 (by decide)
    rw [show ((0 : Nat) : Int) = 0 from rfl] at this
    rw [this]; decide
  unfold unq
  split
  · rfl
  · rw [if_neg (by rw [e]; decide)]

theorem quo_range (s : ByteArray) (i : Nat) (h : i < (quo s).size) : 32 ≤ bt (quo s) (i : Int) ∧ bt (quo s) (i : Int) ≤ 126 := by
  have hg := quoN_good s
  have h' : i < (quoN s).length := by rw [← quo_size]; exact h
  have e : bt (quo s) (i : Int) = (quoN s)[i] := bt_strOf _ _ h' fun x hx => by have := hg.1 x hx; omega
  rw [e]
  exact hg.1 _ (List.getElem_mem h')

set_option maxHeartbeats 1000000 in
theorem ScriptQuoted.walk (W : World) (s : ByteArray) (hs0 : s.size ≤ 140737488351232) (b : ByteArray) (hb0 : b.size ≤ 140737488351232) : Calls Try.prog 5 #[.string s, .string b] W fun e w' => e = .returned (.bool true) ∧ Below W.heap.size W w' := by
  by_cases hl : s.size + b.size ≤ 100000
  · have d : decide ((s.size : Int) + (b.size : Int) > 100000) = false := decide_eq_false (by omega)
    have hq := quo_size s
    have hg := (quoN_good s).2
    have A := fun w => Lib.hid (quote_any s (by omega) w)
    have hab : (quo s ++ b).size = (quo s).size + b.size := ByteArray.size_append
    have B := fun w => Lib.hid (unquote_any (quo s ++ b) (by omega) w)
    have hu : ((quo s).extract 0 ((quo s).size - 1)).size = (quo s).size - 1 := by simp [ByteArray.size_extract]
    have C : ∀ w, Hid (Calls Try.prog 8 #[.string ((quo s).extract 0 ((quo s).size - 1))] w fun e w' => e = .returned (.tuple #[.string ⟨#[]⟩, .int .i64 0, .int .i64 194]) ∧ Below w.heap.size w w') := fun w => by
      have := unquote_any ((quo s).extract 0 ((quo s).size - 1)) (by omega) w
      rw [unq_cut] at this
      exact this
    have hbl : ((⟨#[32]⟩ : ByteArray) ++ quo s).size = 1 + (quo s).size := ByteArray.size_append
    have D : ∀ w, Hid (Calls Try.prog 8 #[.string ((⟨#[32]⟩ : ByteArray) ++ quo s)] w fun e w' => e = .returned (.tuple #[.string ⟨#[]⟩, .int .i64 0, .int .i64 194]) ∧ Below w.heap.size w w') := fun w => by
      have := unquote_any ((⟨#[32]⟩ : ByteArray) ++ quo s) (by omega) w
      rw [unq_blank] at this
      exact this
    rw [unq_quo] at B
    have hr := fun i => Lib.hid (quo_range s i)
    have hlt : s.size + 2 ≤ (quo s).size := by omega
    have hle : (quo s).size ≤ 500000 := by omega
    clear hu hbl hab hg hq
    generalize quo s = q at *
    have f1 : decide ((q.size : Int) < (s.size : Int) + 2) = false := decide_eq_false (by omega)
    go_enter Try.func5, Try.ntmps5
    go_wp2_with fail
    refine (A _).out.mono ?_
    rintro e1 w1 ⟨rfl, hb1⟩
    have HB1 := Lib.hid hb1
    clear hb1
    go_wp2_with fail
    refine (B _).out.mono ?_
    rintro e1 w2 ⟨rfl, hb2⟩
    have HB2 := Lib.hid (Below.trans HB1.out (hb2.mono HB1.out.size))
    clear hb2 HB1
    go_wp2_with fail
    go_loop [9] (fun v9 => ∃ k : Nat, k ≤ q.size ∧ v9 = .int .i64 k) (fun v9 => q.size - (intOf v9).toNat)
    case atStart => exact ⟨0, by omega, rfl⟩
    case round =>
      obtain ⟨k, hk, rfl⟩ := hrel
      by_cases hlt : k < q.size
      · have d1 : decide ((k : Int) < (q.size : Int)) = true := decide_eq_true (by omega)
        have p9 : (0 ≤ (k : Int)) = True := eq_true (by omega)
        have q9 : ((k : Int) < (q.size : Int)) = True := eq_true (by omega)
        have q8 : (k < q.size) = True := eq_true hlt
        have hx9 : ∀ h : k < q.size, ((q[k]'h).toNat : Int) = bt q (k : Int) := bt_at q (k : Int)
        obtain ⟨r1, r2⟩ := (hr k).out hlt
        generalize bt q (k : Int) = c at *
        have g1 : decide (c < 32) = false := decide_eq_false (by omega)
        have g2 : decide (c > 126) = false := decide_eq_false (by omega)
        go_wp2_with fail
        go_round
        case rel => exact ⟨k + 1, by omega, by go_num⟩
        case measure => simp [intOf]; omega
      · obtain rfl : k = q.size := by omega
        have d1 : decide ((q.size : Int) < (q.size : Int)) = false := decide_eq_false (by omega)
        go_wp2_with fail
        refine (C _).out.mono ?_
        rintro e1 w3 ⟨rfl, hb3⟩
        have HB3 := Lib.hid (Below.trans HB2.out (hb3.mono HB2.out.size))
        clear hb3 HB2
        go_wp2_with fail
        refine (D _).out.mono ?_
        rintro e1 w4 ⟨rfl, hb4⟩
        have HB4 := Lib.hid (Below.trans HB3.out (hb4.mono HB3.out.size))
        clear hb4 HB3
        go_wp2_with fail
        go_ret
        exact ⟨rfl, HB4.out⟩
  · have d : decide ((s.size : Int) + (b.size : Int) > 100000) = true := decide_eq_true (by omega)
    clear hl
    go_enter Try.func5, Try.ntmps5
    go_wp2_with fail
    go_ret
    exact ⟨rfl, Below.refl _ _⟩

end Go.Proofs.Ytdgankpignpcdaa
