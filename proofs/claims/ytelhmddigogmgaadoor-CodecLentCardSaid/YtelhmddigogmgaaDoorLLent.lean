/-
What the statement CodecLent computes of any bytes, words and place: true.
-/
import Derived.Test.YtelhmddigogmgaaDoorWBytes
import Derived.Test.YtelhmddigogmgaaDoorOpen
import Derived.Test.YtelhmddigogmgaaDoorLEnds
import Derived.Test.YtelhmddigogmgaaDoorLines
namespace Go.Proofs.YtelhmddigogmgaaDoor
open Go.RowKit

theorem size5q : (Tryd.prog.info? 5).map (·.size) = some 1 := by kernel_rfl
theorem size37q : (Tryd.prog.info? 37).map (·.size) = some 1 := by kernel_rfl
theorem take_app (l m : List Nat) (n : Nat) (h : l.length = n) : (l ++ m).take n = l := by
  subst h; simp

theorem nth_app (l m : List Nat) (j n : Nat) (h : l.length = n) : nth (l ++ m) (n + j) = nth m j := by
  subst h
  simp only [nth, List.getD_eq_getElem?_getD]
  rw [List.getElem?_append_right (by omega), Nat.add_sub_cancel_left]

set_option maxRecDepth 100000 in
set_option maxHeartbeats 4000000 in
theorem CodecLent.walk (W : World) (v0 : Value) (o0 : Nums W .u8 256 1 v0) (v1 : Value) (o1 : Nums W .u64 18446744073709551616 8 v1) (a : Int) (wa : (Lit.int .i64 a).wf = true) (ht : Tab W) : Calls Tryd.prog 15 #[v0, v1, .int .i64 a] W fun e w' => e = .returned (.bool true) ∧ Below W.heap.size W w' := by
  obtain ⟨A, n, c, l, rfl, hr, hl, hn1⟩ := o0
  obtain ⟨A2, m, c2, lw, rfl, hr2, hlw, hm8⟩ := o1
  obtain ⟨i5, hi5, hz50, hz51, hz52⟩ := info_parts info5
  obtain ⟨i37, hi37, hz70, hz71, hz72⟩ := info_parts info37
  have ba := bounds_i64 wa
  have hln := hr.len
  have hlm := hr2.len
  have Hr := Lib.hid hr
  have Hr2 := Lib.hid hr2
  have Hl := Lib.hid hl
  have Hlw := Lib.hid hlw
  have Ht := Lib.hid ht
  have HF := Lib.hid (fixed_any W ht)
  clear hr hr2 hl hlw ht wa
  go_enter Tryd.func15, Tryd.ntmps15
  go_wp2_with fail
  refine HF.out.mono ?_
  rintro e w1 ⟨rfl, hb1⟩
  have HB1 := Lib.hid hb1
  have HC1 := Lib.hid (copyBytes_any l A n c w1 (Hr.out.below hb1))
  clear HF hb1
  go_wp2_with fail
  refine HC1.out.mono ?_
  rintro e w2 ⟨v2, rfl, ho2, hb2⟩
  have Ho2 := Lib.hid ho2
  have HB2 := Lib.hid (HB1.out.trans (hb2.mono HB1.out.size))
  have hs2 := hb2.size
  have hs1 := HB1.out.size
  clear ho2 hb2 HC1
  go_wp2_with (at_builtin; refine wpList_append_own _ rfl _ _ 23 rfl w1.heap.size 5 i5 (.int .u8 0) 1 1 Tryd.underlying23 hi5 hz50 hz51 hz52 rfl (by decide) _ n _ rfl (Ho2.out.alloc _) ⟨w2.heap.size, 0, none⟩ 3 3 [.int .u8 201, .int .u8 202, .int .u8 203] rfl rfl (World.news_of_block (cs := #[.int .u8 201, .int .u8 202, .int .u8 203]) (t := 5) (fr := (0, 0)) (heap_alloc_new w2 _)) (by simp [Value.oneCell']) (by simp only [maxLen]; omega) (by omega) (by simp; omega) ?_; intro v3 w3 hown3 hg3 _)
  have hb3 : Below W.heap.size W w3 := (HB2.out.alloc (by omega) _).grown hg3 (by simp; omega) (fun b hb => by have := (Ho2.out.lt b hb).1; omega)
  have hown3' : w3.ownsRow w1.heap.size 5 1 v3 (n + 3) (vals .u8 (l ++ [201, 202, 203])) := by rw [vals_append]; exact hown3
  obtain ⟨A7, c7, rfl, r7⟩ := Rd.own hown3' (by omega)
  have HB3 := Lib.hid hb3
  have R7 := Lib.hid r7
  have h7c := r7.le
  obtain ⟨q8, hq8⟩ : ∃ q, q = n / 8 := ⟨_, rfl⟩
  obtain ⟨q64, hq64⟩ : ∃ q, q = n / 64 := ⟨_, rfl⟩
  have e1 : (n : Int) / 8 = (q8 : Int) := by omega
  have e2 : (n : Int) / 64 = (q64 : Int) := by omega
  obtain ⟨h8, hh8⟩ : ∃ h, h = q8 * 8 := ⟨_, rfl⟩
  obtain ⟨h64, hh64⟩ : ∃ h, h = q64 * 64 := ⟨_, rfl⟩
  have e3 : (q8 : Int) * 8 = (h8 : Int) := by omega
  have e4 : (q64 : Int) * 64 = (h64 : Int) := by omega
  have hle8 : h8 ≤ n := by omega
  have hle64 : h64 ≤ n := by omega
  have k1 := run_sliceTo (P := Tryd.prog) (A := A7) (n := n + 3) (c := c7) Tryd.underlying23 size5q n (by omega)
  have k2 := run_sliceTo (P := Tryd.prog) (A := A7) (n := n) (c := c7) Tryd.underlying23 size5q h8 (by omega)
  have k3 := run_sliceTo (P := Tryd.prog) (A := A7) (n := n) (c := c7) Tryd.underlying23 size5q h64 (by omega)
  clear hq8 hq64 hh8 hh64
  have HC2 := Lib.hid (copyWords_any lw A2 m c2 w3 (Hr2.out.below hb3) (by omega))
  clear hb3 hown3 hown3' hg3 r7 Ho2 HB2 HB1
  go_wp2_with fail
  refine HC2.out.mono ?_
  rintro e w4 ⟨v4, rfl, ho4, hb4⟩
  have Ho4 := Lib.hid ho4
  have Hb4 := Lib.hid hb4
  have hs4 := hb4.size
  clear ho4 hb4 HC2
  go_wp2_with (at_builtin; refine wpList_append_own _ rfl _ _ 48 rfl w3.heap.size 37 i37 (.int .u64 0) 1 8 Tryd.underlying48 hi37 hz70 hz71 hz72 rfl (by decide) _ m _ rfl (Ho4.out.alloc _) ⟨w4.heap.size, 0, none⟩ 2 2 [.int .u64 204, .int .u64 205] rfl rfl (World.news_of_block (cs := #[.int .u64 204, .int .u64 205]) (t := 37) (fr := (0, 0)) (heap_alloc_new w4 _)) (by simp [Value.oneCell']) (by simp only [maxLen]; omega) (by omega) (by simp; omega) ?_; intro v5 w5 hown5 hg5 _)
  have hb5 : Below w3.heap.size w3 w5 := (Hb4.out.alloc hs4 _).grown hg5 (by simp; omega) (fun b hb => (Ho4.out.lt b hb).1)
  have hown5' : w5.ownsRow w3.heap.size 37 1 v5 (m + 2) (vals .u64 (lw ++ [204, 205])) := by rw [vals_append]; exact hown5
  obtain ⟨A8, c8, rfl, r8⟩ := Rd.own hown5' (by omega)
  have r7 := R7.out.below hb5
  have HW5 := Lib.hid (HB3.out.trans (hb5.mono HB3.out.size))
  have h8c := r8.le
  obtain ⟨M, hM⟩ : ∃ M, M = 8 * m := ⟨_, rfl⟩
  have e5 : (8 : Int) * (m : Int) = (M : Int) := by omega
  have eM : ((M : Int) != (M : Int)) = false := by simp
  have rin : Rd w5 .u8 A7 n c7 l := by
    have := r7.take n (by omega)
    rwa [take_app l _ n hln] at this
  have rls : Rd w5 .u64 A8 m c8 lw := by
    have := r8.take m (by omega)
    rwa [take_app lw _ m hlm] at this
  have k4 := run_sliceTo (P := Tryd.prog) (A := A8) (n := m + 2) (c := c8) Tryd.underlying48 size37q m (by omega)
  have RIN := Lib.hid rin
  have RLS := Lib.hid rls
  have RF := Lib.hid r7
  have RL := Lib.hid r8
  have HT5 := Lib.hid (Ht.out.below HW5.out)
  have HM := Lib.hid hM
  clear hb5 hown5 hown5' hg5 r7 r8 Ho4 Hb4 HB3 R7 rin rls Ht hM
  go_wp2_with fail
  refine (sum_any l Hl.out A7 n c7 w5 RIN.out HT5.out).mono ?_
  rintro e w6 ⟨rfl, rfl⟩
  go_wp2_with fail
  refine (sumOn_any 7 (by omega) l Hl.out A7 n c7 w5 RIN.out HT5.out).mono ?_
  rintro e w6 ⟨rfl, rfl⟩
  go_wp2_with fail
  refine (half_any l Hl.out A7 n c7 a ba.1 (by omega) w5 RIN.out).mono ?_
  rintro e w6 ⟨⟨V6, E6, rfl, _⟩, hb6⟩
  have HB6 := Lib.hid hb6
  clear hb6
  go_wp2_with fail
  refine (word_any l Hl.out A7 n c7 a ba.1 (by omega) w6 (RIN.out.below HB6.out)).mono ?_
  rintro e w7 ⟨⟨V7, E7, rfl, _⟩, rfl⟩
  go_wp2_with fail
  refine (words_any l Hl.out A7 n c7 w6 (RIN.out.below HB6.out)).mono ?_
  rintro e w8 ⟨⟨V8, E8, rfl, _⟩, hb8⟩
  have HB8 := Lib.hid (HB6.out.trans (hb8.mono HB6.out.size))
  clear hb8 HB6
  go_wp2_with fail
  refine (words_any (l.take h8) (take_byte Hl.out h8) A7 h8 c7 w8 ((RIN.out.below HB8.out).take h8 hle8)).mono ?_
  rintro e w9 ⟨⟨V9, E9, rfl, _⟩, hb9⟩
  have HB9 := Lib.hid (HB8.out.trans (hb9.mono HB8.out.size))
  clear hb9 HB8
  go_wp2_with fail
  refine (lines_any (l.take h64) A7 h64 c7 w9 ((RIN.out.below HB9.out).take h64 hle64)).mono ?_
  rintro e w10 ⟨⟨V10, E10, rfl, _⟩, hb10⟩
  have HB10 := Lib.hid (HB9.out.trans (hb10.mono HB9.out.size))
  clear hb10 HB9
  go_wp2_with fail
  refine (bytes_any lw Hlw.out A8 m c8 w10 (RLS.out.below HB10.out) (by omega)).mono ?_
  rintro e w11 ⟨v11, rfl, ho11, hb11⟩
  rw [← HM.out] at ho11
  obtain ⟨A11, c11, rfl, r11⟩ := Rd.own ho11 (by have := HM.out; omega)
  have HB11 := Lib.hid (HB10.out.trans (hb11.mono HB10.out.size))
  clear hb11 HB10 ho11 r11
  have hn47 : n ≤ 140737488355328 := by omega
  go_wp2_with fail
  refine (sameBytes_any l A7 A n c7 c w11 (RIN.out.below HB11.out) ((Hr.out.below HW5.out).below HB11.out)).mono ?_
  rintro e w12 ⟨rfl, m12, rfl⟩
  have HB12 := Lib.hid (below_drewN HB11.out m12)
  go_wp2_with fail
  refine (sameWords_any lw A8 A2 m c8 c2 _ (RLS.out.below HB12.out) ((Hr2.out.below HW5.out).below HB12.out)).mono ?_
  rintro e w13 ⟨rfl, m13, rfl⟩
  have rF := RF.out.below HB11.out
  have rL := RL.out.below HB11.out
  clear k1 k2 k3 k4
  obtain ⟨b7, o7, rfl, hc7⟩ := rF.at_ (by omega)
  obtain ⟨b8, o8, rfl, hc8⟩ := rL.at_ (by omega)
  have f0 := hc7 n (by omega)
  have f1 := hc7 (n + 1) (by omega)
  have f2 := hc7 (n + 2) (by omega)
  have g0 := hc8 m (by omega)
  have g1 := hc8 (m + 1) (by omega)
  have q0 := nth_app l [201, 202, 203] 0 n hln
  have q1 := nth_app l [201, 202, 203] 1 n hln
  have q2 := nth_app l [201, 202, 203] 2 n hln
  have p0 := nth_app lw [204, 205] 0 m hlm
  have p1 := nth_app lw [204, 205] 1 m hlm
  rw [Nat.add_zero] at q0 p0
  rw [q0] at f0
  rw [q1] at f1
  rw [q2] at f2
  rw [p0] at g0
  rw [p1] at g1
  have f0' : w11.cell? ⟨b7, o7 + n, none⟩ = some (.int .u8 201) := f0
  have f1' : w11.cell? ⟨b7, o7 + (n + 1), none⟩ = some (.int .u8 202) := f1
  have f2' : w11.cell? ⟨b7, o7 + (n + 2), none⟩ = some (.int .u8 203) := f2
  have g0' : w11.cell? ⟨b8, o8 + m, none⟩ = some (.int .u64 204) := g0
  have g1' : w11.cell? ⟨b8, o8 + (m + 1), none⟩ = some (.int .u64 205) := g1
  have HE := Lib.hid (HW5.out.trans (HB11.out.mono HW5.out.size))
  clear hc7 hc8 f0 f1 f2 g0 g1 q0 q1 q2 p0 p1 rF rL
  go_wp2_with fail
  go_ret
  exact ⟨rfl, below_drewN HE.out _⟩

end Go.Proofs.YtelhmddigogmgaaDoor
