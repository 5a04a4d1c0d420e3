/-
What the statement CodecEnds computes: true.
-/
import Derived.Test.YtelhmddigogmgaaDoorWWords
import Derived.Test.YtelhmddigogmgaaDoorWLines
import Derived.Test.YtelhmddigogmgaaDoorOpen
namespace Go.Proofs.YtelhmddigogmgaaDoor
open Go.RowKit

theorem room_true {n : Nat} {a : Int} {m : Int} (h : roomB n a m = true) : 0 ≤ a ∧ a ≤ (n : Int) ∧ m ≤ (n : Int) - a := by simpa [roomB] using h
/-- Word, wherever it is asked -/
theorem word_any (l : List Nat) (hl : ∀ x ∈ l, x < 256) (A : Option Addr) (n c : Nat) (a : Int) (h1 : -9223372036854775808 ≤ a) (h2 : a ≤ 9223372036854775807) (w : World) (hr : Rd w .u8 A n c l) :
    Calls Tryd.prog 32 #[.slice A n c, .int .i64 a] w fun e w' => (∃ V E : Int, e = .returned (.tuple #[.int .u64 V, .int .i64 E]) ∧ (E == 0) = roomB n a 8 ∧ (E == 20) = !roomB n a 8) ∧ w = w' := by
  cases h : roomB n a 8 with
  | false => exact (word_no A n c a w hr.lt h1 h2 h).mono fun e w' ⟨he, hw⟩ => ⟨⟨_, _, he, rfl, rfl⟩, hw⟩
  | true =>
    obtain ⟨r1, r2, r3⟩ := room_true h
    obtain ⟨p, rfl⟩ := Int.eq_ofNat_of_zero_le r1
    exact (word_yes l hl A n c p w hr (by omega)).mono fun e w' ⟨he, hw⟩ => ⟨⟨_, _, he, rfl, rfl⟩, hw⟩
theorem half_any (l : List Nat) (hl : ∀ x ∈ l, x < 256) (A : Option Addr) (n c : Nat) (a : Int) (h1 : -9223372036854775808 ≤ a) (h2 : a ≤ 9223372036854775807) (w : World) (hr : Rd w .u8 A n c l) :
    Calls Tryd.prog 31 #[.slice A n c, .int .i64 a] w fun e w' => (∃ V E : Int, e = .returned (.tuple #[.int .u32 V, .int .i64 E]) ∧ (E == 0) = roomB n a 4) ∧ Below w.heap.size w w' := by
  cases h : roomB n a 4 with
  | false => exact (half_no A n c a w hr.lt h1 h2 h).mono fun e w' ⟨he, hw⟩ => ⟨⟨_, _, he, rfl⟩, hw ▸ Below.refl _ _⟩
  | true =>
    obtain ⟨r1, r2, r3⟩ := room_true h
    obtain ⟨p, rfl⟩ := Int.eq_ofNat_of_zero_le r1
    exact (half_yes l hl A n c p w hr (by omega)).mono fun e w' ⟨he, m, hw⟩ => ⟨⟨_, _, he, rfl⟩, hw ▸ below_drewN (Below.refl _ _) m⟩
theorem words_any (l : List Nat) (hl : ∀ x ∈ l, x < 256) (A : Option Addr) (n c : Nat) (w : World) (hr : Rd w .u8 A n c l) :
    Calls Tryd.prog 33 #[.slice A n c] w fun e w' => (∃ (v : Value) (E : Int), e = .returned (.tuple #[v, .int .i64 E]) ∧ (E == 0) = ((n : Int) % 8 == 0)) ∧ Below w.heap.size w w' := by
  by_cases h : n % 8 = 0
  · exact (words_yes l hl A n c (n / 8) w hr (by omega)).mono fun e w' ⟨v, he, _, hb⟩ => ⟨⟨v, 0, he, by simp; omega⟩, hb⟩
  · exact (words_no A n c w hr.lt h).mono fun e w' ⟨he, hw⟩ => ⟨⟨_, 20, he, by simp; omega⟩, hw ▸ Below.refl _ _⟩
theorem lines_any (l : List Nat) (A : Option Addr) (n c : Nat) (w : World) (hr : Rd w .u8 A n c l) :
    Calls Tryd.prog 34 #[.slice A n c] w fun e w' => (∃ (v : Value) (E : Int), e = .returned (.tuple #[v, .int .i64 E]) ∧ (E == 0) = ((n : Int) % 64 == 0)) ∧ Below w.heap.size w w' := by
  by_cases h : n % 64 = 0
  · exact (lines_yes l A n c (n / 64) w hr (by omega)).mono fun e w' ⟨v, he, _, hb⟩ => ⟨⟨v, 0, he, by simp; omega⟩, hb⟩
  · exact (lines_no A n c w hr.lt h).mono fun e w' ⟨he, hw⟩ => ⟨⟨_, 20, he, by simp; omega⟩, hw ▸ Below.refl _ _⟩

set_option maxHeartbeats 4000000 in
theorem CodecEnds.neg (l : List Nat) (hl : ∀ x ∈ l, x < 256) (A : Option Addr) (n c : Nat) (a : Int) (h1 : -9223372036854775808 ≤ a) (h2 : a ≤ 9223372036854775807) (w : World) (hr : Rd w .u8 A n c l)
    (hF : Hid (Calls Tryd.prog 21 #[] w fun e w' => e = .returned (.bool true) ∧ Below w.heap.size w w')) (g1 : a < 0) :
    Calls Tryd.prog 12 #[.slice A n c, .int .i64 a] w fun e w' => e = .returned (.bool true) ∧ Below w.heap.size w w' := by
  have e4 : roomB n a 4 = false := by unfold roomB; simp; omega
  have e8 : roomB n a 8 = false := by unfold roomB; simp; omega
  have hn := hr.lt
  have HH := Lib.hid (fun W hR => half_any l hl A n c a h1 h2 W hR)
  have HW := Lib.hid (fun b b1 b2 W hR => word_any l hl A n c b b1 b2 W hR)
  have HS := Lib.hid (fun W hR => words_any l hl A n c W hR)
  have HL := Lib.hid (fun W hR => lines_any l A n c W hR)
  have Hr := Lib.hid hr
  rw [e4] at HH
  have E8 := Lib.hid e8
  have p1 : roomB n ((n : Int) - 8) 8 = decide (8 ≤ (n : Int)) := by unfold roomB; rw [decide_eq_decide]; omega
  have p2 : roomB n ((n : Int) - 7) 8 = false := by unfold roomB; rw [decide_eq_false_iff_not]; omega
  have P1 := Lib.hid p1
  have P2 := Lib.hid p2
  clear hr e4 e8 p1 p2
  go_enter Tryd.func12, Tryd.ntmps12
  go_wp2_with fail
  refine hF.out.mono ?_
  rintro e w1 ⟨rfl, hb⟩
  have B1 := Lib.hid hb
  clear hb
  go_wp2_with fail
  refine (HH.out _ (Hr.out.below B1.out)).mono ?_
  rintro e w2 ⟨⟨V1, E1, rfl, q1⟩, hb⟩
  have B2 := Lib.hid (B1.out.trans (hb.mono B1.out.size))
  clear hb B1
  go_wp2_with fail
  refine (HW.out a h1 h2 _ (Hr.out.below B2.out)).mono ?_
  rintro e w3 ⟨⟨V2, E2, rfl, q2, _⟩, rfl⟩
  rw [E8.out] at q2
  go_wp2_with fail
  refine (HS.out _ (Hr.out.below B2.out)).mono ?_
  rintro e w3 ⟨⟨V3, E3, rfl, q3⟩, hb⟩
  have B3 := Lib.hid (B2.out.trans (hb.mono B2.out.size))
  clear hb B2
  go_wp2_with fail
  refine (HL.out _ (Hr.out.below B3.out)).mono ?_
  rintro e w4 ⟨⟨V4, E4, rfl, q4⟩, hb⟩
  have B4 := Lib.hid (B3.out.trans (hb.mono B3.out.size))
  clear hb B3
  go_wp2_with fail
  refine (HW.out ((n : Int) - 8) (by omega) (by omega) _ (Hr.out.below B4.out)).mono ?_
  rintro e w5 ⟨⟨V5, E5, rfl, q5, _⟩, rfl⟩
  rw [P1.out] at q5
  go_wp2_with fail
  refine (HW.out ((n : Int) - 7) (by omega) (by omega) _ (Hr.out.below B4.out)).mono ?_
  rintro e w5 ⟨⟨V6, E6, rfl, _, q6⟩, rfl⟩
  rw [P2.out] at q6
  go_wp2_with fail
  go_ret
  exact ⟨rfl, B4.out⟩

set_option maxHeartbeats 4000000 in
theorem CodecEnds.past (l : List Nat) (hl : ∀ x ∈ l, x < 256) (A : Option Addr) (n c : Nat) (a : Int) (h1 : -9223372036854775808 ≤ a) (h2 : a ≤ 9223372036854775807) (w : World) (hr : Rd w .u8 A n c l)
    (hF : Hid (Calls Tryd.prog 21 #[] w fun e w' => e = .returned (.bool true) ∧ Below w.heap.size w w')) (g1 : 0 ≤ a) (g2 : (n : Int) < a) :
    Calls Tryd.prog 12 #[.slice A n c, .int .i64 a] w fun e w' => e = .returned (.bool true) ∧ Below w.heap.size w w' := by
  have e4 : roomB n a 4 = false := by unfold roomB; simp; omega
  have e8 : roomB n a 8 = false := by unfold roomB; simp; omega
  have hn := hr.lt
  have HH := Lib.hid (fun W hR => half_any l hl A n c a h1 h2 W hR)
  have HW := Lib.hid (fun b b1 b2 W hR => word_any l hl A n c b b1 b2 W hR)
  have HS := Lib.hid (fun W hR => words_any l hl A n c W hR)
  have HL := Lib.hid (fun W hR => lines_any l A n c W hR)
  have Hr := Lib.hid hr
  rw [e4] at HH
  have E8 := Lib.hid e8
  have p1 : roomB n ((n : Int) - 8) 8 = decide (8 ≤ (n : Int)) := by unfold roomB; rw [decide_eq_decide]; omega
  have p2 : roomB n ((n : Int) - 7) 8 = false := by unfold roomB; rw [decide_eq_false_iff_not]; omega
  have P1 := Lib.hid p1
  have P2 := Lib.hid p2
  clear hr e4 e8 p1 p2
  go_enter Tryd.func12, Tryd.ntmps12
  go_wp2_with fail
  refine hF.out.mono ?_
  rintro e w1 ⟨rfl, hb⟩
  have B1 := Lib.hid hb
  clear hb
  go_wp2_with fail
  refine (HH.out _ (Hr.out.below B1.out)).mono ?_
  rintro e w2 ⟨⟨V1, E1, rfl, q1⟩, hb⟩
  have B2 := Lib.hid (B1.out.trans (hb.mono B1.out.size))
  clear hb B1
  go_wp2_with fail
  refine (HW.out a h1 h2 _ (Hr.out.below B2.out)).mono ?_
  rintro e w3 ⟨⟨V2, E2, rfl, q2, _⟩, rfl⟩
  rw [E8.out] at q2
  go_wp2_with fail
  refine (HS.out _ (Hr.out.below B2.out)).mono ?_
  rintro e w3 ⟨⟨V3, E3, rfl, q3⟩, hb⟩
  have B3 := Lib.hid (B2.out.trans (hb.mono B2.out.size))
  clear hb B2
  go_wp2_with fail
  refine (HL.out _ (Hr.out.below B3.out)).mono ?_
  rintro e w4 ⟨⟨V4, E4, rfl, q4⟩, hb⟩
  have B4 := Lib.hid (B3.out.trans (hb.mono B3.out.size))
  clear hb B3
  go_wp2_with fail
  refine (HW.out ((n : Int) - 8) (by omega) (by omega) _ (Hr.out.below B4.out)).mono ?_
  rintro e w5 ⟨⟨V5, E5, rfl, q5, _⟩, rfl⟩
  rw [P1.out] at q5
  go_wp2_with fail
  refine (HW.out ((n : Int) - 7) (by omega) (by omega) _ (Hr.out.below B4.out)).mono ?_
  rintro e w5 ⟨⟨V6, E6, rfl, _, q6⟩, rfl⟩
  rw [P2.out] at q6
  go_wp2_with fail
  go_ret
  exact ⟨rfl, B4.out⟩

set_option maxHeartbeats 4000000 in
theorem CodecEnds.none (l : List Nat) (hl : ∀ x ∈ l, x < 256) (A : Option Addr) (n c : Nat) (a : Int) (h1 : -9223372036854775808 ≤ a) (h2 : a ≤ 9223372036854775807) (w : World) (hr : Rd w .u8 A n c l)
    (hF : Hid (Calls Tryd.prog 21 #[] w fun e w' => e = .returned (.bool true) ∧ Below w.heap.size w w')) (g1 : 0 ≤ a) (g2 : a ≤ (n : Int)) (g3 : (n : Int) - a < 4) :
    Calls Tryd.prog 12 #[.slice A n c, .int .i64 a] w fun e w' => e = .returned (.bool true) ∧ Below w.heap.size w w' := by
  have e4 : roomB n a 4 = false := by unfold roomB; simp; omega
  have e8 : roomB n a 8 = false := by unfold roomB; simp; omega
  have hn := hr.lt
  have HH := Lib.hid (fun W hR => half_any l hl A n c a h1 h2 W hR)
  have HW := Lib.hid (fun b b1 b2 W hR => word_any l hl A n c b b1 b2 W hR)
  have HS := Lib.hid (fun W hR => words_any l hl A n c W hR)
  have HL := Lib.hid (fun W hR => lines_any l A n c W hR)
  have Hr := Lib.hid hr
  rw [e4] at HH
  have E8 := Lib.hid e8
  have p1 : roomB n ((n : Int) - 8) 8 = decide (8 ≤ (n : Int)) := by unfold roomB; rw [decide_eq_decide]; omega
  have p2 : roomB n ((n : Int) - 7) 8 = false := by unfold roomB; rw [decide_eq_false_iff_not]; omega
  have P1 := Lib.hid p1
  have P2 := Lib.hid p2
  clear hr e4 e8 p1 p2
  go_enter Tryd.func12, Tryd.ntmps12
  go_wp2_with fail
  refine hF.out.mono ?_
  rintro e w1 ⟨rfl, hb⟩
  have B1 := Lib.hid hb
  clear hb
  go_wp2_with fail
  refine (HH.out _ (Hr.out.below B1.out)).mono ?_
  rintro e w2 ⟨⟨V1, E1, rfl, q1⟩, hb⟩
  have B2 := Lib.hid (B1.out.trans (hb.mono B1.out.size))
  clear hb B1
  go_wp2_with fail
  refine (HW.out a h1 h2 _ (Hr.out.below B2.out)).mono ?_
  rintro e w3 ⟨⟨V2, E2, rfl, q2, _⟩, rfl⟩
  rw [E8.out] at q2
  go_wp2_with fail
  refine (HS.out _ (Hr.out.below B2.out)).mono ?_
  rintro e w3 ⟨⟨V3, E3, rfl, q3⟩, hb⟩
  have B3 := Lib.hid (B2.out.trans (hb.mono B2.out.size))
  clear hb B2
  go_wp2_with fail
  refine (HL.out _ (Hr.out.below B3.out)).mono ?_
  rintro e w4 ⟨⟨V4, E4, rfl, q4⟩, hb⟩
  have B4 := Lib.hid (B3.out.trans (hb.mono B3.out.size))
  clear hb B3
  go_wp2_with fail
  refine (HW.out ((n : Int) - 8) (by omega) (by omega) _ (Hr.out.below B4.out)).mono ?_
  rintro e w5 ⟨⟨V5, E5, rfl, q5, _⟩, rfl⟩
  rw [P1.out] at q5
  go_wp2_with fail
  refine (HW.out ((n : Int) - 7) (by omega) (by omega) _ (Hr.out.below B4.out)).mono ?_
  rintro e w5 ⟨⟨V6, E6, rfl, _, q6⟩, rfl⟩
  rw [P2.out] at q6
  go_wp2_with fail
  go_ret
  exact ⟨rfl, B4.out⟩

set_option maxHeartbeats 4000000 in
theorem CodecEnds.half (l : List Nat) (hl : ∀ x ∈ l, x < 256) (A : Option Addr) (n c : Nat) (a : Int) (h1 : -9223372036854775808 ≤ a) (h2 : a ≤ 9223372036854775807) (w : World) (hr : Rd w .u8 A n c l)
    (hF : Hid (Calls Tryd.prog 21 #[] w fun e w' => e = .returned (.bool true) ∧ Below w.heap.size w w')) (g1 : 0 ≤ a) (g2 : a ≤ (n : Int)) (g3 : 4 ≤ (n : Int) - a) (g4 : (n : Int) - a < 8) :
    Calls Tryd.prog 12 #[.slice A n c, .int .i64 a] w fun e w' => e = .returned (.bool true) ∧ Below w.heap.size w w' := by
  have e4 : roomB n a 4 = true := by unfold roomB; simp; omega
  have e8 : roomB n a 8 = false := by unfold roomB; simp; omega
  have hn := hr.lt
  have HH := Lib.hid (fun W hR => half_any l hl A n c a h1 h2 W hR)
  have HW := Lib.hid (fun b b1 b2 W hR => word_any l hl A n c b b1 b2 W hR)
  have HS := Lib.hid (fun W hR => words_any l hl A n c W hR)
  have HL := Lib.hid (fun W hR => lines_any l A n c W hR)
  have Hr := Lib.hid hr
  rw [e4] at HH
  have E8 := Lib.hid e8
  have p1 : roomB n ((n : Int) - 8) 8 = decide (8 ≤ (n : Int)) := by unfold roomB; rw [decide_eq_decide]; omega
  have p2 : roomB n ((n : Int) - 7) 8 = false := by unfold roomB; rw [decide_eq_false_iff_not]; omega
  have P1 := Lib.hid p1
  have P2 := Lib.hid p2
  clear hr e4 e8 p1 p2
  go_enter Tryd.func12, Tryd.ntmps12
  go_wp2_with fail
  refine hF.out.mono ?_
  rintro e w1 ⟨rfl, hb⟩
  have B1 := Lib.hid hb
  clear hb
  go_wp2_with fail
  refine (HH.out _ (Hr.out.below B1.out)).mono ?_
  rintro e w2 ⟨⟨V1, E1, rfl, q1⟩, hb⟩
  have B2 := Lib.hid (B1.out.trans (hb.mono B1.out.size))
  clear hb B1
  go_wp2_with fail
  refine (HW.out a h1 h2 _ (Hr.out.below B2.out)).mono ?_
  rintro e w3 ⟨⟨V2, E2, rfl, q2, _⟩, rfl⟩
  rw [E8.out] at q2
  go_wp2_with fail
  refine (HS.out _ (Hr.out.below B2.out)).mono ?_
  rintro e w3 ⟨⟨V3, E3, rfl, q3⟩, hb⟩
  have B3 := Lib.hid (B2.out.trans (hb.mono B2.out.size))
  clear hb B2
  go_wp2_with fail
  refine (HL.out _ (Hr.out.below B3.out)).mono ?_
  rintro e w4 ⟨⟨V4, E4, rfl, q4⟩, hb⟩
  have B4 := Lib.hid (B3.out.trans (hb.mono B3.out.size))
  clear hb B3
  go_wp2_with fail
  refine (HW.out ((n : Int) - 8) (by omega) (by omega) _ (Hr.out.below B4.out)).mono ?_
  rintro e w5 ⟨⟨V5, E5, rfl, q5, _⟩, rfl⟩
  rw [P1.out] at q5
  go_wp2_with fail
  refine (HW.out ((n : Int) - 7) (by omega) (by omega) _ (Hr.out.below B4.out)).mono ?_
  rintro e w5 ⟨⟨V6, E6, rfl, _, q6⟩, rfl⟩
  rw [P2.out] at q6
  go_wp2_with fail
  go_ret
  exact ⟨rfl, B4.out⟩

set_option maxHeartbeats 4000000 in
theorem CodecEnds.both (l : List Nat) (hl : ∀ x ∈ l, x < 256) (A : Option Addr) (n c : Nat) (a : Int) (h1 : -9223372036854775808 ≤ a) (h2 : a ≤ 9223372036854775807) (w : World) (hr : Rd w .u8 A n c l)
    (hF : Hid (Calls Tryd.prog 21 #[] w fun e w' => e = .returned (.bool true) ∧ Below w.heap.size w w')) (g1 : 0 ≤ a) (g2 : a ≤ (n : Int)) (g3 : 4 ≤ (n : Int) - a) (g4 : 8 ≤ (n : Int) - a) :
    Calls Tryd.prog 12 #[.slice A n c, .int .i64 a] w fun e w' => e = .returned (.bool true) ∧ Below w.heap.size w w' := by
  have e4 : roomB n a 4 = true := by unfold roomB; simp; omega
  have e8 : roomB n a 8 = true := by unfold roomB; simp; omega
  have hn := hr.lt
  have HH := Lib.hid (fun W hR => half_any l hl A n c a h1 h2 W hR)
  have HW := Lib.hid (fun b b1 b2 W hR => word_any l hl A n c b b1 b2 W hR)
  have HS := Lib.hid (fun W hR => words_any l hl A n c W hR)
  have HL := Lib.hid (fun W hR => lines_any l A n c W hR)
  have Hr := Lib.hid hr
  rw [e4] at HH
  have E8 := Lib.hid e8
  have p1 : roomB n ((n : Int) - 8) 8 = decide (8 ≤ (n : Int)) := by unfold roomB; rw [decide_eq_decide]; omega
  have p2 : roomB n ((n : Int) - 7) 8 = false := by unfold roomB; rw [decide_eq_false_iff_not]; omega
  have P1 := Lib.hid p1
  have P2 := Lib.hid p2
  clear hr e4 e8 p1 p2
  go_enter Tryd.func12, Tryd.ntmps12
  go_wp2_with fail
  refine hF.out.mono ?_
  rintro e w1 ⟨rfl, hb⟩
  have B1 := Lib.hid hb
  clear hb
  go_wp2_with fail
  refine (HH.out _ (Hr.out.below B1.out)).mono ?_
  rintro e w2 ⟨⟨V1, E1, rfl, q1⟩, hb⟩
  have B2 := Lib.hid (B1.out.trans (hb.mono B1.out.size))
  clear hb B1
  go_wp2_with fail
  refine (HW.out a h1 h2 _ (Hr.out.below B2.out)).mono ?_
  rintro e w3 ⟨⟨V2, E2, rfl, q2, _⟩, rfl⟩
  rw [E8.out] at q2
  go_wp2_with fail
  refine (HS.out _ (Hr.out.below B2.out)).mono ?_
  rintro e w3 ⟨⟨V3, E3, rfl, q3⟩, hb⟩
  have B3 := Lib.hid (B2.out.trans (hb.mono B2.out.size))
  clear hb B2
  go_wp2_with fail
  refine (HL.out _ (Hr.out.below B3.out)).mono ?_
  rintro e w4 ⟨⟨V4, E4, rfl, q4⟩, hb⟩
  have B4 := Lib.hid (B3.out.trans (hb.mono B3.out.size))
  clear hb B3
  go_wp2_with fail
  refine (HW.out ((n : Int) - 8) (by omega) (by omega) _ (Hr.out.below B4.out)).mono ?_
  rintro e w5 ⟨⟨V5, E5, rfl, q5, _⟩, rfl⟩
  rw [P1.out] at q5
  go_wp2_with fail
  refine (HW.out ((n : Int) - 7) (by omega) (by omega) _ (Hr.out.below B4.out)).mono ?_
  rintro e w5 ⟨⟨V6, E6, rfl, _, q6⟩, rfl⟩
  rw [P2.out] at q6
  go_wp2_with fail
  go_ret
  exact ⟨rfl, B4.out⟩

theorem CodecEnds.walk (W : World) (v0 : Value) (o0 : Nums W .u8 256 1 v0) (a : Int) (wa : (Lit.int .i64 a).wf = true) (ht : Tab W) :
    Calls Tryd.prog 12 #[v0, .int .i64 a] W fun e w' => e = .returned (.bool true) ∧ Below W.heap.size W w' := by
  obtain ⟨A, n, c, l, rfl, hr, hx, _⟩ := o0
  obtain ⟨h1, h2⟩ := bounds_i64 wa
  have hF := Lib.hid (fixed_any W ht)
  by_cases g1 : a < 0
  · exact CodecEnds.neg l hx A n c a h1 h2 W hr hF g1
  · by_cases g2 : (n : Int) < a
    · exact CodecEnds.past l hx A n c a h1 h2 W hr hF (by omega) g2
    · by_cases g3 : (n : Int) - a < 4
      · exact CodecEnds.none l hx A n c a h1 h2 W hr hF (by omega) (by omega) g3
      · by_cases g4 : (n : Int) - a < 8
        · exact CodecEnds.half l hx A n c a h1 h2 W hr hF (by omega) (by omega) (by omega) g4
        · exact CodecEnds.both l hx A n c a h1 h2 W hr hF (by omega) (by omega) (by omega) (by omega)

end Go.Proofs.YtelhmddigogmgaaDoor
