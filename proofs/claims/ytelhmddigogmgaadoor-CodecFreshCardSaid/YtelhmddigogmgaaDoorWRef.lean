/-
What the document's SumOn, Sum, Lay, Seal, Unseal compute: the same as the program's.
-/
import Derived.Test.YtelhmddigogmgaaDoorWCopy
import Derived.Test.YtelhmddigogmgaaDoorSeals
namespace Go.Proofs.YtelhmddigogmgaaDoor
open Go.RowKit

theorem fs_snoc (j r : Nat) : fs (j + 1) r = f (fs j r) := by rw [fs_add]; rfl
theorem and1 (r : Nat) (h : r < 4294967296) : bits .and .u32 (r : Int) 1 = ((r % 2 : Nat) : Int) := by
  rw [show (1 : Int) = ((1 : Nat) : Int) from rfl, u32_and_nat r 1 h (by omega), Nat.and_one_is_mod]
theorem xorP (r : Nat) (h : r < 4294967296) : bits .xor .u32 (r : Int) 3988292384 = ((r ^^^ 3988292384 : Nat) : Int) := by
  rw [show (3988292384 : Int) = ((3988292384 : Nat) : Int) from rfl, u32_xor_nat r _ h (by omega)]
theorem f_odd (r : Nat) (h : r % 2 = 1) : f r = (r / 2) ^^^ 3988292384 := by
  unfold f; rw [if_pos h, Nat.shiftRight_eq_div_pow]
theorem f_ev (r : Nat) (h : ¬ r % 2 = 1) : f r = r / 2 := by
  unfold f; rw [if_neg h, Nat.shiftRight_eq_div_pow]; simp

set_option maxHeartbeats 1000000 in
theorem refSumOn_any (s : Nat) (hs : s < 4294967296) (l : List Nat) (hx : ∀ x ∈ l, x < 256) (A : Option Addr) (n c : Nat) (w : World) (hr : Rd w .u8 A n c l) :
    Calls Tryd.prog 54 #[.int .u32 s, .slice A n c] w fun e w' => e = .returned (.int .u32 (sumOnN s l : Nat)) ∧ w = w' := by
  have e0 := flip_bits s hs
  have hs1 := flip_lt s hs
  have hn1 := hr.lt
  have Hl := Lib.hid hr.len
  have Hr : Hid (0 < n → _) := Lib.hid hr.at_
  clear hr
  have HS : Hid (sumOnN s l = flip (crc (flip s) l)) := rfl
  generalize flip s = s0 at *
  go_enter Tryd.func54, Tryd.ntmps54
  go_wp2
  go_loop [5, 6, 7, 8] (fun v5 v6 _ _ => ∃ k r : Nat, k ≤ n ∧ v6 = .int .i64 k ∧ r < 4294967296 ∧ v5 = .int .u32 r ∧ Hid (r = crc s0 (l.take k))) (fun _ v6 _ _ => n - (intOf v6).toNat)
  case atStart => exact ⟨0, _, Nat.zero_le _, rfl, hs1, rfl, rfl⟩
  case round =>
    obtain ⟨k, r, hk, rfl, hr0, rfl, Hrk⟩ := hrel
    clear e0 hs1 hs
    by_cases hlt : k < n
    · obtain ⟨b, off, rfl, hcc⟩ := Hr.out (by omega)
      have hc := hcc k hlt
      clear hcc Hr
      have hcb := nth_lt hx (by omega) k
      have HX := Lib.hid hx
      clear hx
      obtain ⟨c0, h0⟩ : ∃ c0, c0 = nth l k := ⟨_, rfl⟩
      rw [← h0] at hc hcb
      have H0 := Lib.hid h0
      clear h0
      have e1 : bits .xor .u32 (r : Int) (c0 : Int) = ((r ^^^ c0 : Nat) : Int) := u32_xor_nat r c0 hr0 (by omega)
      have hl1 : r ^^^ c0 < 4294967296 := Nat.xor_lt_two_pow (n := 32) (by omega) (by omega)
      generalize hx1 : r ^^^ c0 = x1 at e1 hl1
      have H1 := Lib.hid hx1
      clear hx1
      go_wp2_with fail
      go_loop [5, 7, 8] (fun v5 v7 _ => ∃ j q : Nat, j ≤ 8 ∧ v7 = .int .i64 j ∧ q < 4294967296 ∧ v5 = .int .u32 q ∧ Hid (q = fs j x1)) (fun _ v7 _ => 8 - (intOf v7).toNat)
      case atStart => exact ⟨0, x1, by omega, rfl, hl1, rfl, rfl⟩
      case round =>
        obtain ⟨j, q, hj, rfl, hq, rfl, Hq⟩ := hrel
        clear e1 hl1 hc
        by_cases hj8 : j < 8
        · have e2 := and1 q hq
          have e3 : (q : Int) / 2 = ((q / 2 : Nat) : Int) := by simp
          have hq2 : q / 2 < 4294967296 := by omega
          have e4 := xorP (q / 2) hq2
          by_cases hod : q % 2 = 1
          · have Hf : Hid ((q / 2) ^^^ 3988292384 = fs (j + 1) x1) := by rw [fs_snoc, ← Hq.out, f_odd q hod]; rfl
            have hl3 : (q / 2) ^^^ 3988292384 < 4294967296 := Nat.xor_lt_two_pow (n := 32) (by omega) (by omega)
            rw [hod] at e2
            generalize (q / 2) ^^^ 3988292384 = y at *
            generalize q / 2 = h at *
            clear Hq
            go_wp2_with fail
            go_round
            case rel => exact ⟨j + 1, y, by omega, by go_num, hl3, rfl, Hf⟩
            case measure => simp [intOf]; omega
          · have Hf : Hid (q / 2 = fs (j + 1) x1) := by rw [fs_snoc, ← Hq.out, f_ev q hod]; rfl
            have hz : q % 2 = 0 := by omega
            rw [hz] at e2
            clear e4
            generalize q / 2 = h at *
            clear Hq hod
            go_wp2_with fail
            go_round
            case rel => exact ⟨j + 1, h, by omega, by go_num, hq2, rfl, Hf⟩
            case measure => simp [intOf]; omega
        · obtain rfl : j = 8 := by omega
          have Hf : Hid (q = crc s0 (l.take (k + 1))) := by
            rw [take_succ_nth l k (by rw [Hl.out]; exact hlt), crc_snoc, ← H0.out, ← Hrk.out, Hq.out, ← H1.out]
            rfl
          clear Hq
          go_wp2_with fail
          go_round
          case rel => exact ⟨k + 1, q, by omega, by go_num, hq, rfl, Hf⟩
          case measure => simp [intOf]; omega
    · have hkn : k = l.length := by rw [Hl.out]; omega
      have e6 := flip_bits r hr0
      have HF : Hid (sumOnN s l = flip r) := by rw [HS.out, Hrk.out, hkn, List.take_length]; rfl
      have hge : n ≤ k := by omega
      clear Hr Hrk HS hkn hlt Hl
      go_wp2_with fail
      go_ret
      exact ⟨ret_int (by rw [HF.out]), rfl⟩

set_option maxHeartbeats 400000 in
theorem refSum_any (l : List Nat) (hx : ∀ x ∈ l, x < 256) (A : Option Addr) (n c : Nat) (w : World) (hr : Rd w .u8 A n c l) :
    Calls Tryd.prog 53 #[.slice A n c] w fun e w' => e = .returned (.int .u32 (sumN l : Nat)) ∧ w = w' := by
  have H := Lib.hid (refSumOn_any 0 (by omega) l hx A n c w hr)
  clear hr
  go_enter Tryd.func53, Tryd.ntmps53
  go_wp2_with fail
  refine H.out.mono ?_
  rintro e w' ⟨rfl, rfl⟩
  go_wp2_with fail
  go_ret
  exact ⟨rfl, rfl⟩

theorem le_snoc (n v : Nat) : le (n + 1) v = le n v ++ [v / 2 ^ (8 * n) % 256] := by
  induction n generalizing v with
  | zero => simp [le]
  | succ n ih =>
    rw [le, ih (v / 256)]
    simp only [le, List.cons_append]
    rw [Nat.div_div_eq_div_mul, show 256 * 2 ^ (8 * n) = 2 ^ (8 * (n + 1)) from by rw [show 8 * (n + 1) = 8 + 8 * n by omega, Nat.pow_add]]

set_option maxHeartbeats 1000000 in
/-- Lay of a row of the caller's own: n bytes behind it -/
theorem refLay_any (w0 : World) (v0 : Value) (m : Nat) (l : List Nat) (v n : Nat) (hn : n ≤ 8) (hm : m ≤ 140737488355320) (hv : v < 18446744073709551616) (w : World) (ho : w.ownsRow w0.heap.size 5 1 v0 m (vals .u8 l)) (hb : Below w0.heap.size w0 w) :
    Calls Tryd.prog 61 #[v0, .int .u64 v, .int .i64 n] w fun e w' => ∃ v', e = .returned v' ∧ w'.ownsRow w0.heap.size 5 1 v' (m + n) (vals .u8 (l ++ le n v)) ∧ Below w0.heap.size w0 w' := by
  obtain ⟨i0, hi, hz0, hz1, hz2⟩ := info_parts info5
  have HO := Lib.hid ho
  have HB := Lib.hid hb
  clear ho hb
  go_enter Tryd.func61, Tryd.ntmps61
  go_wp2_with fail
  go_loopw [0, 1, 7] (fun s0 s1 s7 wr => ∃ k q : Nat, k ≤ n ∧ s7 = .int .i64 k ∧ s1 = .int .u64 q ∧ q < 18446744073709551616 ∧ Hid (q = v / 2 ^ (8 * k)) ∧ Hid (wr.ownsRow w0.heap.size 5 1 s0 (m + k) (vals .u8 (l ++ le k v))) ∧ Hid (Below w0.heap.size w0 wr)) (fun _ _ s7 _ => n - (intOf s7).toNat)
  case atStart => exact ⟨0, v, by omega, rfl, rfl, hv, (by unfold Hid; simp), (by unfold Hid; simpa [le] using HO.out), HB⟩
  case round =>
    clear HO HB
    obtain ⟨k, q, hk, rfl, rfl, hq, Hq, Hown, Hbel⟩ := hrel
    by_cases hlt : k < n
    · have e1 : (q : Int) % 256 = ((q % 256 : Nat) : Int) := by simp
      have e2 : (q : Int) / 256 = ((q / 256 : Nat) : Int) := by simp
      have h2 : Hid (q / 256 = v / 2 ^ (8 * (k + 1))) := by
        unfold Hid
        rw [Hq.out, Nat.div_div_eq_div_mul, show 2 ^ (8 * k) * 256 = 2 ^ (8 * (k + 1)) from by rw [show 8 * (k + 1) = 8 * k + 8 by omega, Nat.pow_add]]
      have h3 : Hid (le (k + 1) v = le k v ++ [q % 256]) := by unfold Hid; rw [le_snoc, Hq.out]
      have hx : q % 256 < 256 := by omega
      have hy : q / 256 < 18446744073709551616 := by omega
      generalize q % 256 = x at *
      generalize q / 256 = y at *
      have hs := Hbel.out.size
      clear Hq
      go_wp2_with (at_builtin; refine wpList_append_own _ rfl _ _ 23 rfl w0.heap.size 5 i0 (.int .u8 0) 1 1 Tryd.underlying23 hi hz0 hz1 hz2 rfl (by decide) _ (m + k) _ rfl (Hown.out.alloc _) ⟨wr.heap.size, 0, none⟩ 1 1 [.int .u8 (x : Nat)] rfl rfl (World.news_of_block (cs := #[.int .u8 (x : Nat)]) (t := 5) (fr := (0, 0)) (heap_alloc_new wr _)) (by simp [Value.oneCell']) (by simp only [maxLen]; omega) (by omega) (by simp; omega) ?_; intro v2 w2 hown2 hg2 _)
      have hb2 : Below w0.heap.size w0 w2 := (Hbel.out.alloc hs _).grown hg2 (by simp; omega) (fun b hb => (Hown.out.lt b hb).1)
      have hown3 : w2.ownsRow w0.heap.size 5 1 v2 (m + (k + 1)) (vals .u8 (l ++ le (k + 1) v)) := by
        rw [h3.out, ← List.append_assoc, vals_append]; exact hown2
      have H2 := Lib.hid hb2
      have H3 := Lib.hid hown3
      clear hb2 hown3 hown2 hg2
      go_wp2_with fail
      go_roundw
      case rel => exact ⟨k + 1, y, by omega, by go_num, rfl, hy, h2, H3, H2⟩
      case measure => simp [intOf]; omega
    · obtain rfl : k = n := by omega
      go_wp2_with fail
      go_ret
      exact ⟨_, rfl, Hown.out, Hbel.out⟩

theorem check_sum (a v : Nat) : checkN a v = sumN (le 8 a ++ le 4 v) := by
  unfold checkN sumN; rw [sumOnN_append]

set_option maxHeartbeats 1000000 in
theorem refSeal_any (a : Int) (a' v : Nat) (hv : v < 4294967296) (w : World) (ha : a' < 18446744073709551616) (haw : IntKind.u64.wrap a = (a' : Int)) :
    Calls Tryd.prog 51 #[.int .i64 a, .int .u32 v] w fun e w' => e = .returned (.int .u64 (sealN a' v : Nat)) ∧ Below w.heap.size w w' := by
  by_cases h0 : v = 0
  · subst h0
    clear haw
    go_enter Tryd.func51, Tryd.ntmps51
    go_wp2
    go_ret
    exact ⟨rfl, Below.refl _ _⟩
  · have H1 := Lib.hid (refLay_any w (.slice none 0 0) 0 [] a' 8 (by omega) (by omega) ha w (World.ownsRow_nil _ _ _ _) (Below.refl _ _))
    have hb0 : ((v : Int) == 0) = false := by simpa using h0
    have hc := checkN_lt a' v
    have HC := Lib.hid (check_sum a' v)
    have HS : Hid (sealN a' v = checkN a' v * 4294967296 + v) := if_neg h0
    have HB8 : Hid (∀ x ∈ le 8 a' ++ le 4 v, x < 256) := seal_bytes a' v
    generalize checkN a' v = c at *
    go_enter Tryd.func51, Tryd.ntmps51
    go_wp2_with fail
    refine H1.out.mono ?_
    rintro e w1 ⟨v1, rfl, ho1, hb1⟩
    have H2 := Lib.hid (refLay_any w v1 8 (le 8 a') v 4 (by omega) (by omega) (by omega) w1 ho1 hb1)
    clear ho1 hb1 H1
    go_wp2_with fail
    refine H2.out.mono ?_
    rintro e w2 ⟨v2, rfl, ho2, hb2⟩
    obtain ⟨A, cc, rfl, hr⟩ := Rd.own ho2 (by omega)
    have H3 := Lib.hid (refSum_any _ HB8.out A _ cc w2 hr)
    have HB2 := Lib.hid hb2
    clear ho2 hb2 hr H2
    go_wp2_with fail
    refine H3.out.mono ?_
    rintro e w3 ⟨rfl, rfl⟩
    rw [← HC.out]
    go_wp2_with fail
    go_ret
    exact ⟨ret_int (by rw [HS.out]; simp), HB2.out⟩

set_option maxHeartbeats 400000 in
theorem refUnseal_any (a : Int) (a' x : Nat) (w : World) (ha : a' < 18446744073709551616) (haw : IntKind.u64.wrap a = (a' : Int)) :
    Calls Tryd.prog 52 #[.int .i64 a, .int .u64 x] w fun e w' => e = .returned (.tuple #[.int .u32 (unsealV a' x : Nat), .int .i64 (unsealE a' x)]) ∧ Below w.heap.size w w' := by
  have H := Lib.hid (refSeal_any a a' (x % 4294967296) (by omega) w ha haw)
  have e1 : (x : Int) % 4294967296 = ((x % 4294967296 : Nat) : Int) := by simp
  have hv : x % 4294967296 < 4294967296 := by omega
  by_cases h0 : sealN a' (x % 4294967296) = x
  · have HV : Hid (unsealV a' x = x % 4294967296) := if_pos h0
    have HE : Hid (unsealE a' x = 0) := if_pos h0
    generalize x % 4294967296 = v at *
    generalize sealN a' v = s at *
    have h1 : ((s : Int) != (x : Int)) = false := by simp [h0]
    clear haw h0
    go_enter Tryd.func52, Tryd.ntmps52
    go_wp2_with fail
    refine H.out.mono ?_
    rintro e w1 ⟨rfl, hb⟩
    go_wp2_with fail
    go_ret2
    exact ⟨by rw [HV.out, HE.out]; rfl, hb⟩
  · have HV : Hid (unsealV a' x = 0) := if_neg h0
    have HE : Hid (unsealE a' x = 21) := if_neg h0
    generalize x % 4294967296 = v at *
    generalize sealN a' v = s at *
    have h1 : ((s : Int) != (x : Int)) = true := by simpa using (by omega : ¬ (s : Int) = x)
    clear haw h0
    go_enter Tryd.func52, Tryd.ntmps52
    go_wp2_with fail
    refine H.out.mono ?_
    rintro e w1 ⟨rfl, hb⟩
    go_wp2_with fail
    go_ret2
    exact ⟨by rw [HV.out, HE.out]; rfl, hb⟩

end Go.Proofs.YtelhmddigogmgaaDoor
