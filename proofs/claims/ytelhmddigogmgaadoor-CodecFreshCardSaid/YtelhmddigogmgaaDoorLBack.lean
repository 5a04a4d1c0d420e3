/-
What the statement CodecBack computes of any words: true.
-/
import Derived.Test.YtelhmddigogmgaaDoorWBytes
import Derived.Test.YtelhmddigogmgaaDoorOpen
namespace Go.Proofs.YtelhmddigogmgaaDoor
open Go.RowKit

theorem bytesN_cons (x : Nat) (l : List Nat) : bytesN (x :: l) = le 8 x ++ bytesN l := rfl
theorem bytesN_at : ∀ (l : List Nat) (k : Nat), k < l.length → ((bytesN l).drop (8 * k)).take 8 = le 8 (nth l k)
  | [], k, h => by simp at h
  | x :: l, 0, _ => by
    rw [bytesN_cons]
    simp only [Nat.mul_zero, List.drop_zero]
    rw [List.take_left' (le_len 8 x)]
    rfl
  | x :: l, k + 1, h => by
    rw [bytesN_cons, show 8 * (k + 1) = 8 + 8 * k from by omega, ← List.drop_drop, List.drop_left' (le_len 8 x)]
    have := bytesN_at l k (by simpa using h)
    simpa [nth] using this
theorem nth_seg (l : List Nat) (p j m : Nat) (h : j < m) : nth l (p + j) = nth ((l.drop p).take m) j := by
  rw [nth_take _ _ _ h, nth_drop]
theorem byteAt (l : List Nat) (k j : Nat) (h : k < l.length) (hj : j < 8) : nth (bytesN l) (8 * k + j) = nth (le 8 (nth l k)) j := by
  rw [nth_seg _ _ j 8 hj, bytesN_at l k h]

theorem nth_le : ∀ (n v j : Nat), j < n → nth (le n v) j = v / 2 ^ (8 * j) % 256
  | 0, _, _, h => by omega
  | n + 1, v, 0, _ => by simp [le, nth]
  | n + 1, v, j + 1, h => by
    have := nth_le n (v / 256) j (by omega)
    rw [Nat.div_div_eq_div_mul, show 256 * 2 ^ (8 * j) = 2 ^ (8 * (j + 1)) from by rw [show 8 * (j + 1) = 8 + 8 * j by omega, Nat.pow_add]] at this
    rw [← this]
    simp [le, nth]
theorem byteV (l : List Nat) (k j : Nat) (h : k < l.length) (hj : j < 8) : nth (bytesN l) (8 * k + j) = nth l k / 2 ^ (8 * j) % 256 := by
  rw [byteAt l k j h hj, nth_le _ _ _ hj]

theorem back_word (l : List Nat) (k : Nat) (h : k < l.length) (hx : nth l k < 18446744073709551616) :
    numAt (bytesN l) (8 * k) 8 = nth l k ∧ numAt (bytesN l) (8 * k) 4 = nth l k % 4294967296 ∧ numAt (bytesN l) (8 * k + 4) 4 = nth l k / 4294967296 ∧
      nth (bytesN l) (8 * k) = nth l k % 256 ∧ nth (bytesN l) (8 * k + 7) = nth l k / 72057594037927936 := by
  have e0 := byteV l k 0 h (by omega)
  have e1 := byteV l k 1 h (by omega)
  have e2 := byteV l k 2 h (by omega)
  have e3 := byteV l k 3 h (by omega)
  have e4 := byteV l k 4 h (by omega)
  have e5 := byteV l k 5 h (by omega)
  have e6 := byteV l k 6 h (by omega)
  have e7 := byteV l k 7 h (by omega)
  simp only [Nat.reduceMul, Nat.reducePow, Nat.add_zero, Nat.div_one] at e0 e1 e2 e3 e4 e5 e6 e7
  simp only [numAt, Nat.add_assoc, Nat.reduceAdd, Nat.add_zero, Nat.zero_add, Nat.reduceMul, Nat.reducePow, e0, e1, e2, e3, e4, e5, e6, e7]
  clear e0 e1 e2 e3 e4 e5 e6 e7
  generalize nth l k = x at *
  have h2 : x / 65536 = x / 256 / 256 := by rw [Nat.div_div_eq_div_mul]
  have h3 : x / 16777216 = x / 256 / 256 / 256 := by rw [Nat.div_div_eq_div_mul, Nat.div_div_eq_div_mul]
  have h4 : x / 4294967296 = x / 256 / 256 / 256 / 256 := by rw [Nat.div_div_eq_div_mul, Nat.div_div_eq_div_mul, Nat.div_div_eq_div_mul]
  have h5 : x / 1099511627776 = x / 256 / 256 / 256 / 256 / 256 := by rw [Nat.div_div_eq_div_mul, Nat.div_div_eq_div_mul, Nat.div_div_eq_div_mul, Nat.div_div_eq_div_mul]
  have h6 : x / 281474976710656 = x / 256 / 256 / 256 / 256 / 256 / 256 := by rw [Nat.div_div_eq_div_mul, Nat.div_div_eq_div_mul, Nat.div_div_eq_div_mul, Nat.div_div_eq_div_mul, Nat.div_div_eq_div_mul]
  have h7 : x / 72057594037927936 = x / 256 / 256 / 256 / 256 / 256 / 256 / 256 := by rw [Nat.div_div_eq_div_mul, Nat.div_div_eq_div_mul, Nat.div_div_eq_div_mul, Nat.div_div_eq_div_mul, Nat.div_div_eq_div_mul, Nat.div_div_eq_div_mul]
  rw [h2, h3, h5, h6, h7]
  obtain ⟨x1, d1⟩ : ∃ y, y = x / 256 := ⟨_, rfl⟩
  obtain ⟨x2, d2⟩ : ∃ y, y = x1 / 256 := ⟨_, rfl⟩
  obtain ⟨x3, d3⟩ : ∃ y, y = x2 / 256 := ⟨_, rfl⟩
  obtain ⟨x4, d4⟩ : ∃ y, y = x3 / 256 := ⟨_, rfl⟩
  obtain ⟨x5, d5⟩ : ∃ y, y = x4 / 256 := ⟨_, rfl⟩
  obtain ⟨x6, d6⟩ : ∃ y, y = x5 / 256 := ⟨_, rfl⟩
  obtain ⟨x7, d7⟩ : ∃ y, y = x6 / 256 := ⟨_, rfl⟩
  rw [← d1, ← d2, ← d3, ← d4] at h4
  rw [h4, ← d1, ← d2, ← d3, ← d4, ← d5, ← d6, ← d7]
  clear h2 h3 h5 h6 h7
  have b7 : x7 < 256 := by omega
  refine ⟨?_, ?_, ?_, trivial, ?_⟩ <;> omega

theorem words_bytes (l : List Nat) (hl : ∀ y ∈ l, y < 18446744073709551616) : wordsN (bytesN l) l.length = l := by
  apply List.ext_getElem (by rw [wordsN_len])
  intro i h1 h2
  simp only [wordsN, List.getElem_map, List.getElem_range]
  rw [(back_word l i h2 (nth_lt hl (by omega) i)).1, nth_get l i h2]

/-- a row of lines of the call's own, byte by byte -/
theorem rows_own {w : World} {B q : Nat} {v : Value} {l : List Nat} (h : w.ownsRow B 33 64 v q (vals .u8 l)) : ∃ A c, v = .slice A q c ∧ ∀ i, i < l.length → ∃ g, A = some ⟨g, 0, none⟩ ∧ w.cell? ⟨g, i, none⟩ = some (.int .u8 (nth l i : Nat)) := by
  have hl : l.length = q * 64 := by have := h.1; rw [vals_len] at this; omega
  rcases h.2 with ⟨rfl, h0⟩ | ⟨g, cap, cur, rfl, _, hg, h1, h2, h3, h4⟩
  · subst h0
    exact ⟨none, 0, rfl, fun i hi => by omega⟩
  · refine ⟨_, cap, rfl, fun i hi => ⟨g, rfl, ?_⟩⟩
    have e : (cur.toList.take (q * 64))[i]? = some (.int .u8 (nth l i : Nat)) := by
      rw [show cur.toList.take (q * 64) = vals .u8 l from by simpa [Nat.mul_comm] using h4]
      exact vals_get .u8 l i hi
    rw [List.getElem?_take, if_pos (by omega)] at e
    simpa [World.cell?, hg] using e

set_option maxRecDepth 100000 in
set_option maxHeartbeats 4000000 in
theorem CodecBack.walk (W : World) (v0 : Value) (o0 : Nums W .u64 18446744073709551616 8 v0) (ht : Tab W) : Calls Tryd.prog 14 #[v0] W fun e w' => e = .returned (.bool true) ∧ Below W.heap.size W w' := by
  obtain ⟨A, n, c, l, rfl, hr, hl, hn8⟩ := o0
  have hn := hr.lt
  have hln := hr.len
  have hbl := bytesN_len l
  have Hr := Lib.hid hr
  have Hl := Lib.hid hl
  have HF := Lib.hid (fixed_any W ht)
  have HW := Lib.hid (words_bytes l hl)
  have HBK := Lib.hid (fun k (h : k < l.length) => back_word l k h (nth_lt hl (by omega) k))
  have HBB := Lib.hid (bytesN_byte l)
  have e8 : ((8 : Int) * (n : Int)) = ((8 * n : Nat) : Int) := by omega
  obtain ⟨N, hN⟩ : ∃ N, N = 8 * n := ⟨_, rfl⟩
  rw [← hN] at e8
  have ene : ((N : Int) != (N : Int)) = false := by simp
  rw [hln, ← hN] at hbl
  have hNb : N ≤ 140737488355328 := by omega
  have HN := Lib.hid hN
  clear hr ht hl hN
  go_enter Tryd.func14, Tryd.ntmps14
  go_wp2_with fail
  refine HF.out.mono ?_
  rintro e w1 ⟨rfl, hb1⟩
  have r1 := Hr.out.below hb1
  have HB := Lib.hid (bytes_any l Hl.out A n c w1 r1 (by omega))
  have HB1 := Lib.hid hb1
  clear hb1 r1 HF
  go_wp2_with fail
  refine HB.out.mono ?_
  rintro e w2 ⟨v2, rfl, ho2, hb2⟩
  rw [← HN.out] at ho2
  obtain ⟨Ab, cb, rfl, rb⟩ := Rd.own ho2 (by omega)
  have HB2 := Lib.hid (HB1.out.trans (hb2.mono HB1.out.size))
  have Rb := Lib.hid rb
  have HWs := Lib.hid (words_yes (bytesN l) HBB.out Ab N cb n w2 rb HN.out)
  clear ho2 hb2 rb HB HB1
  go_wp2_with fail
  refine HWs.out.mono ?_
  rintro e w3 ⟨v3, rfl, ho3, hb3⟩
  obtain ⟨Aw, cw, rfl, rw3⟩ := Rd.own ho3 (by omega)
  have hww : wordsN (bytesN l) n = l := by rw [← hln]; exact HW.out
  rw [hww] at rw3
  have HB3 := Lib.hid (HB2.out.trans (hb3.mono HB2.out.size))
  have Rb3 := Lib.hid (Rb.out.below hb3)
  have HSW := Lib.hid (sameWords_any l Aw A n cw c w3 rw3 (Hr.out.below HB3.out))
  clear ho3 hb3 rw3 HB2 HWs hww HW
  go_wp2_with fail
  refine HSW.out.mono ?_
  rintro e w4 ⟨rfl, m4, rfl⟩
  have HB4 := Lib.hid (below_drewN HB3.out m4)
  have Rb4 := Lib.hid (Rb3.out.drewN m4)
  clear HSW Rb3 HB3
  go_wp2_with fail
  go_loopw [6] (fun v6 wr => ∃ k : Nat, k ≤ n ∧ v6 = .int .i64 k ∧ Hid (Below W.heap.size W wr) ∧ Hid (Rd wr .u8 Ab N cb (bytesN l))) (fun v6 _ => n - (intOf v6).toNat)
  case atStart => exact ⟨0, by omega, rfl, HB4, Rb4⟩
  case round =>
    clear HB4 Rb4
    obtain ⟨k, hk, rfl, HB5, R5⟩ := hrel
    by_cases hlt : k < n
    · obtain ⟨g1, g2, g3, g4, g5⟩ := HBK.out k (by omega)
      have hx := nth_lt Hl.out (by omega) k
      have hpN : 8 * k + 8 ≤ N := by rw [HN.out]; omega
      obtain ⟨bw, ow, rfl, hcw⟩ := (Hr.out.below HB5.out).at_ (by omega)
      obtain ⟨b, off, rfl, hcc⟩ := R5.out.at_ (by omega)
      have cw1 := hcw k hlt
      have c0 := hcc (8 * k) (by omega)
      have c7 := hcc (8 * k + 7) (by omega)
      have e8k : (8 : Int) * (k : Int) = ((8 * k : Nat) : Int) := by omega
      have HWd := word_yes (bytesN l) HBB.out _ N cb (8 * k) wr R5.out (by omega)
      have HH0 := half_yes (bytesN l) HBB.out _ N cb (8 * k) wr R5.out (by omega)
      have HH4 := fun m => half_yes (bytesN l) HBB.out _ N cb (8 * k + 4) (wr.drewN m) (R5.out.drewN m) (by omega)
      rw [g1] at HWd
      rw [g2] at HH0
      rw [g3] at HH4
      rw [g4] at c0
      rw [g5] at c7
      rw [show ((8 * k + 4 : Nat) : Int) = ((8 * k : Nat) : Int) + 4 by omega] at HH4
      generalize nth l k = x at *
      generalize 8 * k = p at *
      have e0 : (x : Int) % 256 = ((x % 256 : Nat) : Int) := by omega
      have e7 : (x : Int) / 72057594037927936 = ((x / 72057594037927936 : Nat) : Int) := by omega
      have hs : x % 4294967296 + x / 4294967296 * 4294967296 = x := by omega
      have hlo : x % 4294967296 < 4294967296 := by omega
      have hhi : x / 4294967296 < 4294967296 := by omega
      have hy0 : x % 256 < 256 := by omega
      have hy7 : x / 72057594037927936 < 256 := by omega
      have HWD := Lib.hid HWd
      have HHA := Lib.hid HH0
      have HHB := fun m => Lib.hid (HH4 m)
      clear HWd HH0 HH4 g1 g2 g3 g4 g5 hcw hcc
      generalize x % 4294967296 = lo at *
      generalize x / 4294967296 = hi at *
      generalize x % 256 = y0 at *
      generalize x / 72057594037927936 = y7 at *
      have eS : ((lo : Int) + (hi : Int) * 4294967296 != (x : Int)) = false := by simp; omega
      clear hs
      go_wp2_with fail
      refine HWD.out.mono ?_
      rintro e w5 ⟨rfl, rfl⟩
      go_wp2_with fail
      refine HHA.out.mono ?_
      rintro e w5 ⟨rfl, m5, rfl⟩
      go_wp2_with fail
      refine (HHB m5).out.mono ?_
      rintro e w6 ⟨rfl, m6, rfl⟩
      go_wp2_with fail
      go_roundw
      case rel => exact ⟨k + 1, by omega, by go_num, below_drewN HB5.out _, R5.out.drewN _⟩
      case measure => simp [intOf]; omega
    · obtain rfl : k = n := by omega
      clear hlt HBK HBB
      by_cases hq : k % 8 = 0
      · obtain ⟨q, hq8⟩ : ∃ q, q = k / 8 := ⟨_, rfl⟩
        have h64 : N = 64 * q := by rw [HN.out]; omega
        have e9 : (((k : Int) % 8) != 0) = false := by simp; omega
        have e10 : ((8 : Int) * (q : Int)) = (k : Int) := by omega
        have ekk : ((k : Int) != (k : Int)) = false := by simp
        have HL := Lib.hid (lines_yes (bytesN l) Ab N cb q wr R5.out h64)
        have H64 := Lib.hid h64
        clear hq hq8 h64
        go_wp2_with fail
        refine HL.out.mono ?_
        rintro e w5 ⟨v5, rfl, ho5, hb5⟩
        obtain ⟨Al, cl, rfl, hcl⟩ := rows_own ho5
        have HCL := Lib.hid hcl
        have HB6 := Lib.hid (HB5.out.trans (hb5.mono HB5.out.size))
        have R6 := Lib.hid (R5.out.below hb5)
        clear ho5 hb5 hcl HL HB5 R5
        go_wp2_with fail
        go_loopw [15] (fun v15 wr => ∃ j : Nat, j ≤ N ∧ v15 = .int .i64 j ∧ Hid (∃ m, wr = w5.drewN m)) (fun v15 _ => N - (intOf v15).toNat)
        case atStart => exact ⟨0, by omega, rfl, 0, rfl⟩
        case round =>
          clear e10 ekk e9
          obtain ⟨j, hj, rfl, Hm⟩ := hrel
          obtain ⟨m, rfl⟩ := Hm.out
          by_cases hjl : j < N
          · obtain ⟨b, off, rfl, hcc⟩ := R6.out.at_ (by omega)
            obtain ⟨g, rfl, hg⟩ := HCL.out j (by omega)
            have c1 := hcc j hjl
            have e1 : (j : Int) / 64 = ((j / 64 : Nat) : Int) := by omega
            have e2 : (j : Int) % 64 = ((j % 64 : Nat) : Int) := by omega
            have hd : j / 64 < q := by have := H64.out; omega
            have hrr : j % 64 < 64 := by omega
            rw [show j = j / 64 * 64 + j % 64 by omega] at hg
            rw [show nth (bytesN l) (j / 64 * 64 + j % 64) = nth (bytesN l) j from by rw [show j / 64 * 64 + j % 64 = j by omega]] at hg
            generalize nth (bytesN l) j = y at *
            generalize j / 64 = d at *
            generalize j % 64 = r at *
            have eyy : ((y : Int) != (y : Int)) = false := by simp
            clear Hm hcc
            go_wp2_with fail
            go_quiet (fail)
            go_wp2_with fail
            go_roundw
            case rel => exact ⟨j + 1, by omega, by go_num, _, rfl⟩
            case measure => simp [intOf]; omega
          · clear Hm
            go_wp2_with fail
            go_ret
            exact ⟨rfl, below_drewN HB6.out m⟩
      · have e9 : (((k : Int) % 8) != 0) = true := by simp; omega
        have HL := Lib.hid (lines_no Ab N cb wr hNb (by rw [HN.out]; omega))
        clear hq
        go_wp2_with fail
        refine HL.out.mono ?_
        rintro e w5 ⟨rfl, rfl⟩
        go_wp2_with fail
        go_ret
        exact ⟨rfl, HB5.out⟩

end Go.Proofs.YtelhmddigogmgaaDoor
