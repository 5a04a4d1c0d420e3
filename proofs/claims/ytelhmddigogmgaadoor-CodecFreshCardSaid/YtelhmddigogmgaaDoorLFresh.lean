/-
What the statement CodecFresh computes of any words: true.
-/
import Derived.Test.YtelhmddigogmgaaDoorWApp
import Derived.Test.YtelhmddigogmgaaDoorLBack
import Derived.Test.YtelhmddigogmgaaDoorWFresh0
import Derived.Test.YtelhmddigogmgaaDoorOpen
namespace Go.Proofs.YtelhmddigogmgaaDoor
open Go.RowKit

set_option maxRecDepth 100000 in
set_option maxHeartbeats 1000000 in
/-- no words: only the first call -/
theorem fresh_none (W : World) (A : Option Addr) (c : Nat) (ht : Tab W) : Calls Tryd.prog 13 #[.slice A 0 c] W fun e w' => e = .returned (.bool true) ∧ Below W.heap.size W w' := by
  have HF := Lib.hid (fixed_any W ht)
  clear ht
  go_enter Tryd.func13, Tryd.ntmps13
  go_wp2_with fail
  refine HF.out.mono ?_
  rintro e w1 ⟨rfl, hb1⟩
  have HB1 := Lib.hid hb1
  clear hb1
  go_wp2_with fail
  go_ret
  exact ⟨rfl, HB1.out⟩

/-- the first k numbers each xored with m -/
def xk (l : List Nat) (m k : Nat) : List Nat := (l.take k).map (· ^^^ m) ++ l.drop k
theorem xk_zero (l : List Nat) (m : Nat) : xk l m 0 = l := by simp [xk]
theorem xk_all (l : List Nat) (m k : Nat) (h : l.length = k) : xk l m k = l.map (· ^^^ m) := by simp [xk, List.take_of_length_le (Nat.le_of_eq h), List.drop_eq_nil_of_le (Nat.le_of_eq h)]
theorem nth_xk (l : List Nat) (m k : Nat) (h : k < l.length) : nth (xk l m k) k = nth l k := by
  simp only [nth, xk, List.getD_eq_getElem?_getD]
  rw [List.getElem?_append_right (by simp; omega)]
  simp [Nat.min_eq_left (Nat.le_of_lt h)]
theorem xk_set (l : List Nat) (m k : Nat) (h : k < l.length) : (xk l m k).set k (nth l k ^^^ m) = xk l m (k + 1) := by
  have h1 : ((l.take k).map (· ^^^ m)).length = k := by simp; omega
  simp only [xk]
  rw [List.set_append_right (h := by omega), h1, Nat.sub_self, List.take_succ_eq_append_getElem h, List.drop_eq_getElem_cons h, List.set_cons_zero, nth_get l k h]
  simp only [List.map_append, List.map_cons, List.map_nil, List.append_assoc, List.cons_append, List.nil_append]
theorem nth_map_xor (l : List Nat) (m k : Nat) (h : k < l.length) : nth (l.map (· ^^^ m)) k = nth l k ^^^ m := by
  simp [nth, h]

/-- the six rows that the statement makes, rising -/
structure Six (W0 : World) (gk ck gb cb gf cf gc cc gl cl gm cm n N : Nat) (l b lb ll lm : List Nat) (W : World) : Prop where
  rk : Row W gk ck .u64 37 n l
  rb : Row W gb cb .u8 5 N lb
  rf : Row W gf cf .u8 5 N b
  rc : Row W gc cc .u8 5 N b
  rl : Row W gl cl .u64 37 n ll
  rm : Row W gm cm .u64 37 n lm
  bel : Below W0.heap.size W0 W
  o1 : W0.heap.size ≤ gk ∧ gk < gb ∧ gb < gf ∧ gf < gc ∧ gc < gl ∧ gl < gm
section
variable {W0 : World} {gk ck gb cb gf cf gc cc gl cl gm cm n N : Nat} {l b lb ll lm : List Nat} {W W' : World}
theorem Six.below (h : Six W0 gk ck gb cb gf cf gc cc gl cl gm cm n N l b lb ll lm W) (hb : Below W.heap.size W W') :
    Six W0 gk ck gb cb gf cf gc cc gl cl gm cm n N l b lb ll lm W' :=
  ⟨h.rk.below hb, h.rb.below hb, h.rf.below hb, h.rc.below hb, h.rl.below hb, h.rm.below hb, h.bel.trans (hb.mono h.bel.size), h.o1⟩
theorem Six.setb (h : Six W0 gk ck gb cb gf cf gc cc gl cl gm cm n N l b lb ll lm W) (j v : Nat) :
    Six W0 gk ck gb cb gf cf gc cc gl cl gm cm n N l b (lb.set j v) ll lm (W.setCell ⟨gb, j, none⟩ (.int .u8 v)) := by
  obtain ⟨q0, q1, q2, q3, q4, q5⟩ := h.o1
  exact ⟨h.rk.far _ _ (by simp; omega), h.rb.set j v, h.rf.far _ _ (by simp; omega), h.rc.far _ _ (by simp; omega), h.rl.far _ _ (by simp; omega), h.rm.far _ _ (by simp; omega), h.bel.setCell (by simp; omega) _, h.o1⟩
end

/-- behind both appends: the old rows and the new ones -/
structure Eight (W0 : World) (gk ck gb cb gb' cb' gf cf gc cc gl cl gl' cl' gm cm n N : Nat) (l b lb ll lm : List Nat) (W : World) : Prop where
  rk : Row W gk ck .u64 37 n l
  rb : Row W gb cb .u8 5 N lb
  rb' : Row W gb' cb' .u8 5 (N + 1) (lb ++ [1])
  rf : Row W gf cf .u8 5 N b
  rc : Row W gc cc .u8 5 N b
  rl : Row W gl cl .u64 37 n ll
  rl' : Row W gl' cl' .u64 37 (n + 1) (ll ++ [2])
  rm : Row W gm cm .u64 37 n lm
  bel : Below W0.heap.size W0 W
  o1 : W0.heap.size ≤ gm ∧ gk ≠ gm ∧ gb ≠ gm ∧ gb' ≠ gm ∧ gf ≠ gm ∧ gc ≠ gm ∧ gl ≠ gm ∧ gl' ≠ gm
section
variable {W0 : World} {gk ck gb cb gb' cb' gf cf gc cc gl cl gl' cl' gm cm n N : Nat} {l b lb ll lm : List Nat} {W W' : World}
theorem Eight.below (h : Eight W0 gk ck gb cb gb' cb' gf cf gc cc gl cl gl' cl' gm cm n N l b lb ll lm W) (hb : Below W.heap.size W W') :
    Eight W0 gk ck gb cb gb' cb' gf cf gc cc gl cl gl' cl' gm cm n N l b lb ll lm W' :=
  ⟨h.rk.below hb, h.rb.below hb, h.rb'.below hb, h.rf.below hb, h.rc.below hb, h.rl.below hb, h.rl'.below hb, h.rm.below hb, h.bel.trans (hb.mono h.bel.size), h.o1⟩
theorem Eight.setm (h : Eight W0 gk ck gb cb gb' cb' gf cf gc cc gl cl gl' cl' gm cm n N l b lb ll lm W) (j v : Nat) :
    Eight W0 gk ck gb cb gb' cb' gf cf gc cc gl cl gl' cl' gm cm n N l b lb ll (lm.set j v) (W.setCell ⟨gm, j, none⟩ (.int .u64 v)) := by
  obtain ⟨q0, q1, q2, q3, q4, q5, q6, q7⟩ := h.o1
  exact ⟨h.rk.far _ _ q1, h.rb.far _ _ q2, h.rb'.far _ _ q3, h.rf.far _ _ q4, h.rc.far _ _ q5, h.rl.far _ _ q6, h.rl'.far _ _ q7, h.rm.set j v, h.bel.setCell q0 _, h.o1⟩
end

/-- behind the first append -/
structure Seven (W0 : World) (gk ck gb cb gb' cb' gf cf gc cc gl cl gm cm n N : Nat) (l b lb ll lm : List Nat) (W : World) : Prop where
  rk : Row W gk ck .u64 37 n l
  rb : Row W gb cb .u8 5 N lb
  rb' : Row W gb' cb' .u8 5 (N + 1) (lb ++ [1])
  rf : Row W gf cf .u8 5 N b
  rc : Row W gc cc .u8 5 N b
  rl : Row W gl cl .u64 37 n ll
  rm : Row W gm cm .u64 37 n lm
  bel : Below W0.heap.size W0 W
  o1 : W0.heap.size ≤ gl ∧ W0.heap.size ≤ gm ∧ gl ≠ gm ∧ gk ≠ gm ∧ gb ≠ gm ∧ gb' ≠ gm ∧ gf ≠ gm ∧ gc ≠ gm
  o2 : gk ≠ gl ∧ gb ≠ gl ∧ gb' ≠ gl ∧ gf ≠ gl ∧ gc ≠ gl
section
variable {W0 : World} {gk ck gb cb gb' cb' gf cf gc cc gl cl gm cm n N : Nat} {l b lb ll lm : List Nat} {W W' : World}
theorem Seven.below (h : Seven W0 gk ck gb cb gb' cb' gf cf gc cc gl cl gm cm n N l b lb ll lm W) (hb : Below W.heap.size W W') :
    Seven W0 gk ck gb cb gb' cb' gf cf gc cc gl cl gm cm n N l b lb ll lm W' :=
  ⟨h.rk.below hb, h.rb.below hb, h.rb'.below hb, h.rf.below hb, h.rc.below hb, h.rl.below hb, h.rm.below hb, h.bel.trans (hb.mono h.bel.size), h.o1, h.o2⟩
theorem Seven.setl (h : Seven W0 gk ck gb cb gb' cb' gf cf gc cc gl cl gm cm n N l b lb ll lm W) (j v : Nat) :
    Seven W0 gk ck gb cb gb' cb' gf cf gc cc gl cl gm cm n N l b lb (ll.set j v) lm (W.setCell ⟨gl, j, none⟩ (.int .u64 v)) := by
  obtain ⟨q0, q1, q2, _⟩ := h.o1
  obtain ⟨p0, p1, p2, p3, p4⟩ := h.o2
  exact ⟨h.rk.far _ _ p0, h.rb.far _ _ p1, h.rb'.far _ _ p2, h.rf.far _ _ p3, h.rc.far _ _ p4, h.rl.set j v, h.rm.far _ _ (Ne.symm q2), h.bel.setCell q0 _, h.o1, h.o2⟩
/-- the append to the row b -/
theorem Six.append {gb' cb' : Nat} (h : Six W0 gk ck gb cb gf cf gc cc gl cl gm cm n N l b lb ll lm W) {v' : Value} (hg : W.grownBy W' (some gb)) (ho : Onto W 5 1 (some ⟨gb, 0, none⟩) gb 0 N cb (vals .u8 lb) W' v' 1 [.int .u8 ((1 : Nat) : Int)])
    (hb' : gb' = gb ∨ W.heap.size ≤ gb') (rb' : Row W' gb' cb' .u8 5 (N + 1) (lb ++ [1])) : Seven W0 gk ck gb cb gb' cb' gf cf gc cc gl cl gm cm n N l b lb ll lm W' := by
  obtain ⟨q0, q1, q2, q3, q4, q5⟩ := h.o1
  have e1 := row_lt h.rm
  have ne : ∀ g, g ≠ gb → some gb ≠ some g := fun g hg e => hg (Option.some.inj e).symm
  exact ⟨h.rk.grown hg (ne _ (by omega)), h.rb.kept ho, rb', h.rf.grown hg (ne _ (by omega)), h.rc.grown hg (ne _ (by omega)), h.rl.grown hg (ne _ (by omega)), h.rm.grown hg (ne _ (by omega)),
    h.bel.grown hg h.bel.size (fun k e => by cases e; omega), ⟨by omega, by omega, by omega, by omega, by omega, by omega, by omega, by omega⟩, ⟨by omega, by omega, by omega, by omega, by omega⟩⟩
/-- the append to the row l -/
theorem Seven.append {gl' cl' : Nat} (h : Seven W0 gk ck gb cb gb' cb' gf cf gc cc gl cl gm cm n N l b lb ll lm W) {v' : Value} (hg : W.grownBy W' (some gl)) (ho : Onto W 37 1 (some ⟨gl, 0, none⟩) gl 0 n cl (vals .u64 ll) W' v' 1 [.int .u64 ((2 : Nat) : Int)])
    (hl' : gl' = gl ∨ W.heap.size ≤ gl') (rl' : Row W' gl' cl' .u64 37 (n + 1) (ll ++ [2])) : Eight W0 gk ck gb cb gb' cb' gf cf gc cc gl cl gl' cl' gm cm n N l b lb ll lm W' := by
  obtain ⟨q0, q1, q2, q3, q4, q5, q6, q7⟩ := h.o1
  obtain ⟨p0, p1, p2, p3, p4⟩ := h.o2
  have e1 := row_lt h.rm
  have ne : ∀ g, g ≠ gl → some gl ≠ some g := fun g hg e => hg (Option.some.inj e).symm
  exact ⟨h.rk.grown hg (ne _ p0), h.rb.grown hg (ne _ p1), h.rb'.grown hg (ne _ p2), h.rf.grown hg (ne _ p3), h.rc.grown hg (ne _ p4), h.rl.kept ho, rl', h.rm.grown hg (ne _ (by omega)),
    h.bel.grown hg h.bel.size (fun k e => by cases e; omega), ⟨q1, q3, q4, q5, q6, q7, q2, by omega⟩⟩
end

set_option maxRecDepth 100000 in
set_option maxHeartbeats 4000000 in
theorem fresh_some (W : World) (A : Option Addr) (n c : Nat) (l : List Nat) (h0 : 0 < n) (hr : Rd W .u64 A n c l) (hl : ∀ y ∈ l, y < 18446744073709551616) (hn8 : n * 8 ≤ 140737488351232) (ht : Tab W)
    (hF : ∀ (l : List Nat) (A : Option Addr) (n c : Nat) (w : World), Rd w .u8 A n c l → (∀ x ∈ l, x < 256) → n ≤ 140737488351232 → Calls Tryd.prog 40 #[.slice A n c] w fun e w' => e = .returned (.bool true) ∧ Below w.heap.size w w') :
    Calls Tryd.prog 13 #[.slice A n c] W fun e w' => e = .returned (.bool true) ∧ Below W.heap.size W w' := by
  have HFL := Lib.hid hF
  clear hF
  have hln := hr.len
  have e0 : ((n : Int) == 0) = false := by simp; omega
  obtain ⟨N, hN⟩ : ∃ N, N = 8 * n := ⟨_, rfl⟩
  have e8 : ((8 : Int) * (n : Int)) = (N : Int) := by omega
  have hNb : N ≤ 140737488351232 := by omega
  have hN0 : 0 < N := by omega
  have HN := Lib.hid hN
  have Hr := Lib.hid hr
  have Hl := Lib.hid hl
  have HF := Lib.hid (fixed_any W ht)
  have HW := Lib.hid (words_bytes l hl)
  have HBB := Lib.hid (bytesN_byte l)
  clear hr hl ht hN
  go_enter Tryd.func13, Tryd.ntmps13
  go_wp2_with fail
  refine HF.out.mono ?_
  rintro e w1 ⟨rfl, hb1⟩
  have hW1 := hb1.size
  have HB1 := Lib.hid hb1
  clear hb1 HF
  go_wp2_with fail
  refine (copyWords_any l A n c w1 (Hr.out.below HB1.out) (by omega)).mono ?_
  rintro e w2 ⟨v2, rfl, ho2, hb2⟩
  obtain ⟨gk, ck, rfl, hgk, rk⟩ := Row.own ho2 h0 (by omega)
  have hg0 : W.heap.size ≤ gk := by omega
  have HB2 := Lib.hid (HB1.out.trans (hb2.mono HB1.out.size))
  clear ho2 hb2 HB1
  go_wp2_with fail
  refine (bytes_any l Hl.out A n c w2 (Hr.out.below HB2.out) (by omega)).mono ?_
  rintro e w3 ⟨v3, rfl, ho3, hb3⟩
  rw [← HN.out] at ho3
  obtain ⟨gb, cb, rfl, hgb, rb⟩ := Row.own ho3 hN0 (by omega)
  have rk3 := rk.below hb3
  have hsz3 := hb3.size
  have HB3 := Lib.hid (HB2.out.trans (hb3.mono HB2.out.size))
  have hkb : gk < gb := by
    obtain ⟨cur, hg, _⟩ := rk.out
    have := (Array.getElem?_eq_some_iff.1 hg).1
    omega
  clear ho3 hb3 HB2 rk
  go_wp2_with fail
  refine (copyBytes_any (bytesN l) _ N cb w3 rb.rd).mono ?_
  rintro e w4 ⟨v4, rfl, ho4, hb4⟩
  obtain ⟨gf, cf, rfl, hgf, rf⟩ := Row.own ho4 hN0 (by omega)
  have hbf : gb < gf := by
    obtain ⟨cur, hg, _⟩ := rb.out
    have := (Array.getElem?_eq_some_iff.1 hg).1
    omega
  have rk4 := rk3.below hb4
  have rb4 := rb.below hb4
  have HB4 := Lib.hid (HB3.out.trans (hb4.mono HB3.out.size))
  clear ho4 hb4 HB3 rk3 rb
  go_wp2_with fail
  refine (bytes_any l Hl.out A n c w4 (Hr.out.below HB4.out) (by omega)).mono ?_
  rintro e w5 ⟨v5, rfl, ho5, hb5⟩
  rw [← HN.out] at ho5
  obtain ⟨gc, cc, rfl, hgc, rc⟩ := Row.own ho5 hN0 (by omega)
  have hfc : gf < gc := by have := row_lt rf; omega
  have rk5 := rk4.below hb5
  have rb5 := rb4.below hb5
  have rf5 := rf.below hb5
  have HB5 := Lib.hid (HB4.out.trans (hb5.mono HB4.out.size))
  clear ho5 hb5 HB4 rk4 rb4 rf
  go_wp2_with fail
  refine (words_yes (bytesN l) HBB.out _ N cb n w5 rb5.rd HN.out).mono ?_
  rintro e w6 ⟨v6, rfl, ho6, hb6⟩
  have hww : wordsN (bytesN l) n = l := by rw [← hln]; exact HW.out
  rw [hww] at ho6
  obtain ⟨gl, cl, rfl, hgl, rl⟩ := Row.own ho6 h0 (by omega)
  have hcl : gc < gl := by have := row_lt rc; omega
  have rk6 := rk5.below hb6
  have rb6 := rb5.below hb6
  have rf6 := rf5.below hb6
  have rc6 := rc.below hb6
  have HB6 := Lib.hid (HB5.out.trans (hb6.mono HB5.out.size))
  clear ho6 hb6 HB5 rk5 rb5 rf5 rc
  go_wp2_with fail
  refine (words_yes (bytesN l) HBB.out _ N cb n w6 rb6.rd HN.out).mono ?_
  rintro e w7 ⟨v7, rfl, ho7, hb7⟩
  rw [hww] at ho7
  obtain ⟨gm, cm, rfl, hgm, rm⟩ := Row.own ho7 h0 (by omega)
  have hlm : gl < gm := by have := row_lt rl; omega
  have HS := Lib.hid (Six.mk (W0 := W) (rk6.below hb7) (rb6.below hb7) (rf6.below hb7) (rc6.below hb7) (rl.below hb7) rm (HB6.out.trans (hb7.mono HB6.out.size)) ⟨hg0, hkb, hbf, hfc, hcl, hlm⟩)
  clear ho7 hb7 HB6 rk6 rb6 rf6 rc6 rl rm hww
  have eN : ((N : Int) != (N : Int)) = false := by simp
  go_wp2_with fail
  refine (sameBytes_any (bytesN l) _ _ N cb cc w7 HS.out.rb.rd HS.out.rc.rd).mono ?_
  rintro e w9 ⟨rfl, m9, rfl⟩
  have HS9 := Lib.hid (HS.out.below (below_drewN (Below.refl _ _) m9))
  clear HS
  generalize w7.drewN m9 = w9 at *
  go_wp2_with fail
  refine (sameWords_any l _ _ n cl c _ HS9.out.rl.rd (Hr.out.below HS9.out.bel)).mono ?_
  rintro e w10 ⟨rfl, m10, rfl⟩
  have HS10 := Lib.hid (HS9.out.below (below_drewN (Below.refl _ _) m10))
  clear HS9
  generalize w9.drewN m10 = w10 at *
  go_wp2_with fail
  refine (sameWords_any l _ _ n cm c _ HS10.out.rm.rd (Hr.out.below HS10.out.bel)).mono ?_
  rintro e w11 ⟨rfl, m11, rfl⟩
  have HS11 := Lib.hid (HS10.out.below (below_drewN (Below.refl _ _) m11))
  clear HS10
  generalize w10.drewN m11 = w11 at *
  have hbl : (bytesN l).length = N := by rw [bytesN_len, hln]; exact HN.out.symm
  have Hbl := Lib.hid hbl
  have HS0 : Hid (Six W gk ck gb cb gf cf gc cc gl cl gm cm n N l (bytesN l) (xk (bytesN l) 255 0) l l w11) := by rw [xk_zero]; exact HS11.out
  clear hbl HS11
  go_wp2_with fail
  go_loopw [11] (fun v wr => ∃ k : Nat, k ≤ N ∧ v = .int .i64 k ∧ Hid (Six W gk ck gb cb gf cf gc cc gl cl gm cm n N l (bytesN l) (xk (bytesN l) 255 k) l l wr)) (fun v _ => N - (intOf v).toNat)
  case atStart => exact ⟨0, by omega, rfl, HS0⟩
  case round =>
    clear HS0
    obtain ⟨k, hk, rfl, HS⟩ := hrel
    by_cases hlt : k < N
    · obtain ⟨hc1, hf1⟩ := HS.out.rb.cell k hlt
      rw [nth_xk _ _ _ (by rw [Hbl.out]; exact hlt)] at hc1
      have hx := nth_lt HBB.out (by omega) k
      have ex : bits .xor .u8 ((nth (bytesN l) k : Nat) : Int) 255 = ((nth (bytesN l) k ^^^ 255 : Nat) : Int) := u8_xor_nat (nth (bytesN l) k) 255 hx (by omega)
      have HT := Lib.hid (HS.out.setb k (nth (bytesN l) k ^^^ 255))
      rw [xk_set _ _ _ (by rw [Hbl.out]; exact hlt)] at HT
      clear HS
      generalize nth (bytesN l) k = x at *
      go_wp2_with fail
      go_roundw
      case rel => exact ⟨k + 1, by omega, by go_num, HT⟩
      case measure => simp [intOf]; omega
    · obtain rfl : N = k := by omega
      rw [xk_all _ _ _ Hbl.out] at HS
      generalize hlbd : (bytesN l).map (· ^^^ 255) = lb at *
      have Hlb := Lib.hid hlbd
      have hb0 : Below wr.heap.size wr (wr.alloc (.cells #[.int .u8 1] 5)) := (Below.refl _ _).alloc (Nat.le_refl _) _
      have HSa := Lib.hid (HS.out.below hb0)
      obtain ⟨i5, hi5, hz50, hz51, hz52⟩ := info_parts info5
      clear hlbd hb0 hlt hk
      go_wp2_with (at_builtin; refine wpList_append_both rfl _ _ 23 rfl gb 5 i5 (.int .u8 0) 1 1 Tryd.underlying23 hi5 hz50 hz51 hz52 rfl (by decide) HSa.out.rb.came rfl (HSa.out.rb.toOwn gb (Nat.le_refl _)) ⟨wr.heap.size, 0, none⟩ 1 [.int .u8 1] rfl rfl (World.news_of_block (cs := #[.int .u8 1]) (t := 5) (fr := (0, 0)) (heap_alloc_new wr _)) (by simp [Value.oneCell']) (by simp only [maxLen]; omega) (by omega) (by have := row_lt HSa.out.rb; omega) ?_; intro v' w12 hown hgr hon)
      obtain ⟨gb', cb', rfl, hgb', rb'⟩ := Row.appended (x := 1) hown hon rfl (by omega)
      have HM : Hid (Seven W gk ck gb cb gb' cb' gf cf gc cc gl cl gm cm n N l (bytesN l) lb (xk l 3 0) l w12) := by rw [xk_zero]; exact HSa.out.append hgr hon hgb' rb'
      clear hown hgr hon hgb' rb' HSa HS hi5 hz50 hz51 hz52
      go_wp2_with fail
      go_loopw [13] (fun v wr => ∃ k : Nat, k ≤ n ∧ v = .int .i64 k ∧ Hid (Seven W gk ck gb cb gb' cb' gf cf gc cc gl cl gm cm n N l (bytesN l) lb (xk l 3 k) l wr)) (fun v _ => n - (intOf v).toNat)
      case atStart => exact ⟨0, by omega, rfl, HM⟩
      case round =>
        clear HM
        obtain ⟨k, hk, rfl, HS⟩ := hrel
        by_cases hlt : k < n
        · obtain ⟨hc1, hf1⟩ := HS.out.rl.cell k hlt
          rw [nth_xk _ _ _ (by omega)] at hc1
          have hx := nth_lt Hl.out (by omega) k
          have ex : bits .xor .u64 ((nth l k : Nat) : Int) 3 = ((nth l k ^^^ 3 : Nat) : Int) := u64_xor_nat (nth l k) 3 hx (by omega)
          have HT := Lib.hid (HS.out.setl k (nth l k ^^^ 3))
          rw [xk_set _ _ _ (by omega)] at HT
          clear HS
          generalize nth l k = x at *
          go_wp2_with fail
          go_roundw
          case rel => exact ⟨k + 1, by omega, by go_num, HT⟩
          case measure => simp [intOf]; omega
        · obtain rfl : n = k := by omega
          rw [xk_all _ _ _ hln] at HS
          generalize hlld : l.map (· ^^^ 3) = ll at *
          have Hll := Lib.hid hlld
          have hb0 : Below wr.heap.size wr (wr.alloc (.cells #[.int .u64 2] 37)) := (Below.refl _ _).alloc (Nat.le_refl _) _
          have HSa := Lib.hid (HS.out.below hb0)
          obtain ⟨i37, hi37, hz70, hz71, hz72⟩ := info_parts info37
          clear hlld hb0 hlt hk
          go_wp2_with (at_builtin; refine wpList_append_both rfl _ _ 48 rfl gl 37 i37 (.int .u64 0) 1 8 Tryd.underlying48 hi37 hz70 hz71 hz72 rfl (by decide) HSa.out.rl.came rfl (HSa.out.rl.toOwn gl (Nat.le_refl _)) ⟨wr.heap.size, 0, none⟩ 1 [.int .u64 2] rfl rfl (World.news_of_block (cs := #[.int .u64 2]) (t := 37) (fr := (0, 0)) (heap_alloc_new wr _)) (by simp [Value.oneCell']) (by simp only [maxLen]; omega) (by omega) (by have := row_lt HSa.out.rl; omega) ?_; intro v' w14 hown hgr hon)
          obtain ⟨gl', cl', rfl, hgl', rl'⟩ := Row.appended (x := 2) hown hon rfl (by omega)
          have HE := Lib.hid (HSa.out.append hgr hon hgl' rl')
          clear hown hgr hon hgl' rl' HSa HS hi37 hz70 hz71 hz72
          go_wp2_with fail
          refine (bytes_any l Hl.out A n c w14 (Hr.out.below HE.out.bel) (by omega)).mono ?_
          rintro e w15 ⟨v15, rfl, ho15, hb15⟩
          rw [← HN.out] at ho15
          obtain ⟨gd, cd, rfl, hgd, rd⟩ := Row.own ho15 hN0 (by omega)
          have HE15 := Lib.hid (HE.out.below hb15)
          have HD15 := Lib.hid rd
          clear ho15 hb15 HE rd
          go_wp2_with fail
          refine (words_yes (bytesN l) HBB.out _ N cd n w15 HD15.out.rd HN.out).mono ?_
          rintro e w16 ⟨v16, rfl, ho16, hb16⟩
          have HE16 := Lib.hid (HE15.out.below hb16)
          have HD16 := Lib.hid (HD15.out.below hb16)
          clear ho16 hb16 HE15 HD15
          go_wp2_with fail
          refine (sameBytes_any (bytesN l) _ _ N cc cf w16 HE16.out.rc.rd HE16.out.rf.rd).mono ?_
          rintro e w17 ⟨rfl, m17, rfl⟩
          have HE17 := Lib.hid (HE16.out.below (below_drewN (Below.refl _ _) m17))
          have HD17 := Lib.hid (HD16.out.below (below_drewN (Below.refl _ _) m17))
          clear HE16 HD16
          generalize w16.drewN m17 = w17 at *
          go_wp2_with fail
          refine (sameBytes_any (bytesN l) _ _ N cd cf w17 HD17.out.rd HE17.out.rf.rd).mono ?_
          rintro e w18 ⟨rfl, m18, rfl⟩
          have HE18 := Lib.hid (HE17.out.below (below_drewN (Below.refl _ _) m18))
          clear HE17 HD17
          generalize w17.drewN m18 = w18 at *
          go_wp2_with fail
          refine (sameWords_any l _ _ n cm ck w18 HE18.out.rm.rd HE18.out.rk.rd).mono ?_
          rintro e w19 ⟨rfl, m19, rfl⟩
          have HE19 := Lib.hid (HE18.out.below (below_drewN (Below.refl _ _) m19))
          clear HE18
          generalize w18.drewN m19 = w19 at *
          go_wp2_with fail
          refine (sameWords_any l _ _ n c ck w19 (Hr.out.below HE19.out.bel) HE19.out.rk.rd).mono ?_
          rintro e w20 ⟨rfl, m20, rfl⟩
          have HE20 : Hid (Eight W gk ck gb cb gb' cb' gf cf gc cc gl cl gl' cl' gm cm n N l (bytesN l) lb ll (xk l 5 0) (w19.drewN m20)) := by rw [xk_zero]; exact HE19.out.below (below_drewN (Below.refl _ _) m20)
          clear HE19
          generalize w19.drewN m20 = w20 at *
          go_wp2_with fail
          go_loopw [16] (fun v wr => ∃ k : Nat, k ≤ n ∧ v = .int .i64 k ∧ Hid (Eight W gk ck gb cb gb' cb' gf cf gc cc gl cl gl' cl' gm cm n N l (bytesN l) lb ll (xk l 5 k) wr)) (fun v _ => n - (intOf v).toNat)
          case atStart => exact ⟨0, by omega, rfl, HE20⟩
          case round =>
            clear HE20
            obtain ⟨k, hk, rfl, HS⟩ := hrel
            by_cases hlt : k < n
            · obtain ⟨hc1, hf1⟩ := HS.out.rm.cell k hlt
              rw [nth_xk _ _ _ (by omega)] at hc1
              have hx := nth_lt Hl.out (by omega) k
              have ex : bits .xor .u64 ((nth l k : Nat) : Int) 5 = ((nth l k ^^^ 5 : Nat) : Int) := u64_xor_nat (nth l k) 5 hx (by omega)
              have HT := Lib.hid (HS.out.setm k (nth l k ^^^ 5))
              rw [xk_set _ _ _ (by omega)] at HT
              clear HS
              generalize nth l k = x at *
              go_wp2_with fail
              go_roundw
              case rel => exact ⟨k + 1, by omega, by go_num, HT⟩
              case measure => simp [intOf]; omega
            · obtain rfl : n = k := by omega
              generalize xk l 5 n = lm at *
              clear hlt hk
              go_wp2_with fail
              go_loopw [17] (fun v wr => ∃ k : Nat, k ≤ n ∧ v = .int .i64 k ∧ Hid (Eight W gk ck gb cb gb' cb' gf cf gc cc gl cl gl' cl' gm cm n N l (bytesN l) lb ll lm wr)) (fun v _ => n - (intOf v).toNat)
              case atStart => exact ⟨0, by omega, rfl, HS⟩
              case round =>
                clear HS
                obtain ⟨k, hk, rfl, HS⟩ := hrel
                by_cases hlt : k < n
                · obtain ⟨hc1, _⟩ := HS.out.rl'.cell k (by omega)
                  obtain ⟨hc2, _⟩ := HS.out.rk.cell k hlt
                  obtain ⟨hc3, _⟩ := HS.out.rl.cell k hlt
                  have e1 : nth ll k = nth l k ^^^ 3 := by rw [← Hll.out, nth_map_xor _ _ _ (by omega)]
                  have e2 : nth (ll ++ [2]) k = nth l k ^^^ 3 := by
                    rw [← e1]
                    have : k < ll.length := by rw [← Hll.out]; simp; omega
                    simp [nth, List.getElem?_append_left this]
                  rw [e2] at hc1
                  rw [e1] at hc3
                  have hx := nth_lt Hl.out (by omega) k
                  have ex : bits .xor .u64 ((nth l k : Nat) : Int) 3 = ((nth l k ^^^ 3 : Nat) : Int) := u64_xor_nat (nth l k) 3 hx (by omega)
                  generalize nth l k = x at *
                  generalize x ^^^ 3 = y at *
                  have e0 : ((y : Int) != (y : Int)) = false := by simp
                  have e00 : ¬ ((n : Int) + 1 ≤ (k : Int)) := by omega
                  clear e1 e2 eN
                  go_wp2_with fail
                  go_quiet (fail)
                  go_wp2_with fail
                  go_roundw
                  case rel => exact ⟨k + 1, by omega, by go_num, HS.out.below (below_drewN (Below.refl _ _) _)⟩
                  case measure => simp [intOf]; omega
                · obtain rfl : n = k := by omega
                  clear hlt hk
                  go_wp2_with fail
                  go_loopw [18] (fun v wr => ∃ k : Nat, k ≤ N ∧ v = .int .i64 k ∧ Hid (Eight W gk ck gb cb gb' cb' gf cf gc cc gl cl gl' cl' gm cm n N l (bytesN l) lb ll lm wr)) (fun v _ => N - (intOf v).toNat)
                  case atStart => exact ⟨0, by omega, rfl, HS⟩
                  case round =>
                    clear HS
                    obtain ⟨k, hk, rfl, HS⟩ := hrel
                    by_cases hlt : k < N
                    · obtain ⟨hc1, _⟩ := HS.out.rb'.cell k (by omega)
                      obtain ⟨hc2, _⟩ := HS.out.rf.cell k hlt
                      obtain ⟨hc3, _⟩ := HS.out.rb.cell k hlt
                      have hkl : k < (bytesN l).length := by rw [Hbl.out]; exact hlt
                      have e1 : nth lb k = nth (bytesN l) k ^^^ 255 := by rw [← Hlb.out, nth_map_xor _ _ _ hkl]
                      have e2 : nth (lb ++ [1]) k = nth (bytesN l) k ^^^ 255 := by
                        rw [← e1]
                        have : k < lb.length := by rw [← Hlb.out]; simpa using hkl
                        simp [nth, List.getElem?_append_left this]
                      rw [e2] at hc1
                      rw [e1] at hc3
                      have hx := nth_lt HBB.out (by omega) k
                      have ex : bits .xor .u8 ((nth (bytesN l) k : Nat) : Int) 255 = ((nth (bytesN l) k ^^^ 255 : Nat) : Int) := u8_xor_nat (nth (bytesN l) k) 255 hx (by omega)
                      generalize nth (bytesN l) k = x at *
                      generalize x ^^^ 255 = y at *
                      have e0 : ((y : Int) != (y : Int)) = false := by simp
                      clear e1 e2 eN hkl
                      go_wp2_with fail
                      go_quiet (fail)
                      go_wp2_with fail
                      go_roundw
                      case rel => exact ⟨k + 1, by omega, by go_num, HS.out.below (below_drewN (Below.refl _ _) _)⟩
                      case measure => simp [intOf]; omega
                    · obtain rfl : N = k := by omega
                      have en1 : (((N : Int) + 1) != ((N : Int) + 1)) = false := by simp
                      have en2 : (((n : Int) + 1) != ((n : Int) + 1)) = false := by simp
                      clear hlt hk eN
                      go_wp2_with fail
                      refine (HFL.out (bytesN l) _ N cf _ HS.out.rf.rd HBB.out hNb).mono ?_
                      rintro e w25 ⟨rfl, hb25⟩
                      have HE25 := Lib.hid (HS.out.below hb25)
                      clear HS hb25
                      go_wp2_with fail
                      refine (sameBytes_any (bytesN l) _ _ N cc cf w25 HE25.out.rc.rd HE25.out.rf.rd).mono ?_
                      rintro e w26 ⟨rfl, m26, rfl⟩
                      have HE26 := Lib.hid (HE25.out.below (below_drewN (Below.refl _ _) m26))
                      clear HE25
                      generalize w25.drewN m26 = w26 at *
                      go_wp2_with fail
                      refine (sameWords_any l _ _ n c ck w26 (Hr.out.below HE26.out.bel) HE26.out.rk.rd).mono ?_
                      rintro e w27 ⟨rfl, m27, rfl⟩
                      go_wp2_with fail
                      go_ret
                      exact ⟨rfl, below_drewN HE26.out.bel _⟩

theorem CodecFresh.walk (W : World) (v0 : Value) (o0 : Nums W .u64 18446744073709551616 8 v0) (ht : Tab W) : Calls Tryd.prog 13 #[v0] W fun e w' => e = .returned (.bool true) ∧ Below W.heap.size W w' := by
  obtain ⟨A, n, c, l, rfl, hr, hl, hn8⟩ := o0
  by_cases h0 : n = 0
  · subst h0
    exact fresh_none W A c ht
  · exact fresh_some W A n c l (by omega) hr hl hn8 ht freshLines_any

end Go.Proofs.YtelhmddigogmgaaDoor
