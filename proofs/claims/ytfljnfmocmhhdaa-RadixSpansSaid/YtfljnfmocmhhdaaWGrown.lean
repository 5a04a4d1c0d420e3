/-
grown and last: a tree behind a short script, and the script's last word on an offset.
-/
import Derived.Test.YtfljnfmocmhhdaaWUp
namespace Go.Proofs.Ytfljnfmocmhhdaa
open Go.RowKit

/-- a step: cut or set; its offset; its value -/
abbrev PutV := Bool × Int × Int
def stepP (f : Nat → Int) (p : PutV) : Nat → Int := if p.1 then cutI f p.2.1 else updI f p.2.1 p.2.2
def runP (l : List PutV) : Nat → Int := l.foldl stepP (fun _ => 0)
def stepL (x : Int) (v : Int) (p : PutV) : Int := if p.1 then (if p.2.1 ≤ x then 0 else v) else if p.2.1 = x then p.2.2 else v
def lastP (l : List PutV) (x : Int) : Int := l.foldl (stepL x) 0
theorem step_last (f : Nat → Int) (v : Int) (p : PutV) (i : Nat) (hi : i < 512) (h : f i = v) : stepP f p i = stepL i v p := by
  unfold stepP stepL
  cases p.1
  · simp only [Bool.false_eq_true, if_false]
    unfold updI
    by_cases hin : inO p.2.1
    · rw [if_pos hin]
      unfold upd
      by_cases e : p.2.1 = i
      · rw [if_pos e, if_pos (by omega)]
      · rw [if_neg e, if_neg (by have := hin.1; omega)]; exact h
    · rw [if_neg hin, if_neg (fun e => hin (by unfold inO; omega))]; exact h
  · simp only [if_true]
    unfold cutI
    split
    · rfl
    · exact h
theorem run_last (l : List PutV) (i : Nat) (hi : i < 512) : runP l i = lastP l i := by
  unfold runP lastP
  generalize hf : (fun _ => 0 : Nat → Int) = f
  generalize hv : (0 : Int) = v
  have h0 : f i = v := by rw [← hf, ← hv]
  clear hf hv
  induction l generalizing f v with
  | nil => exact h0
  | cons p l ih => exact ih _ _ (step_last f v p i hi h0)
theorem runP_snoc (l : List PutV) (p : PutV) : runP (l ++ [p]) = stepP (runP l) p := by simp [runP]
theorem lastP_snoc (l : List PutV) (p : PutV) (x : Int) : lastP (l ++ [p]) x = stepL x (lastP l x) p := by simp [lastP]

theorem runP_in64 (l : List PutV) (h : ∀ p ∈ l, -9223372036854775808 ≤ p.2.2 ∧ p.2.2 ≤ 9223372036854775807) : In64 (runP l) := by
  unfold runP
  have h0 : In64 (fun _ => 0) := zero_in64
  generalize (fun _ => 0 : Nat → Int) = f at *
  induction l generalizing f with
  | nil => exact h0
  | cons p l ih =>
    refine ih (fun q hq => h q (by simp [hq])) _ ?_
    unfold stepP
    split
    · exact h0.cutI _
    · exact h0.updI _ _ (h p (by simp))

/-- what a slice of steps reads as -/
def RdT (w : World) (A : Option Addr) (n c : Nat) (l : List PutV) : Prop :=
  l.length = n ∧ n ≤ c ∧ n * 24 ≤ 140737488355328 ∧ (∀ p ∈ l, -9223372036854775808 ≤ p.2.1 ∧ -9223372036854775808 ≤ p.2.2 ∧ p.2.2 ≤ 9223372036854775807) ∧ (0 < n → ∃ b off, A = some ⟨b, off, none⟩ ∧ b < w.heap.size ∧ ∀ i (p : PutV), l[i]? = some p →
    w.cell? ⟨b, off + i * 3, none⟩ = some (.bool p.1) ∧ w.cell? ⟨b, off + i * 3 + 1, none⟩ = some (.int .i64 p.2.1) ∧ w.cell? ⟨b, off + i * 3 + 2, none⟩ = some (.int .i64 p.2.2))
theorem RdT.below {w w' : World} {A : Option Addr} {n c : Nat} {l : List PutV} (h : RdT w A n c l) (hb : Below w.heap.size w w') : RdT w' A n c l :=
  ⟨h.1, h.2.1, h.2.2.1, h.2.2.2.1, fun hn => by
    obtain ⟨b, off, e, hlt, hh⟩ := h.2.2.2.2 hn
    exact ⟨b, off, e, Nat.lt_of_lt_of_le hlt hb.size, fun i p hp => ⟨cell_below hb (hh i p hp).1, cell_below hb (hh i p hp).2.1, cell_below hb (hh i p hp).2.2⟩⟩⟩

set_option maxRecDepth 100000 in
set_option maxHeartbeats 4000000 in
theorem last_any (w : World) (A : Option Addr) (n c : Nat) (l : List PutV) (hr : RdT w A n c l) (x : Int) : Calls Try.prog 19 #[.slice A n c, .int .i64 x] w fun e w' => e = .returned (.int .i64 (lastP (l.take 400) x)) ∧ w = w' := by
  obtain ⟨hln, hnc, hn, _, hrd⟩ := hr
  have HR := Lib.hid hrd
  clear hrd
  go_enter Try.func19, Try.ntmps19
  go_wp2_with fail
  go_loopw [5, 6] (fun v5 v6 wr => ∃ k : Nat, k ≤ n ∧ k ≤ 400 ∧ v6 = .int .i64 k ∧ v5 = .int .i64 (lastP (l.take k) x) ∧ wr = w) (fun _ v6 _ => n - (intOf v6).toNat)
  case atStart => exact ⟨0, by omega, by omega, rfl, rfl, rfl⟩
  case round =>
    obtain ⟨k, hk, hk4, rfl, rfl, rfl⟩ := hrel
    by_cases hlt : k < n
    · by_cases h400 : k < 400
      · obtain ⟨b, off, rfl, _, hh⟩ := HR.out (by omega)
        obtain ⟨p, hp⟩ : ∃ p, l[k]? = some p := ⟨_, List.getElem?_eq_getElem (by omega)⟩
        obtain ⟨d0, d1, d2⟩ := hh k p hp
        have hts := take_succ_get l k p hp
        have hls := lastP_snoc (l.take k) p x
        rw [← hts] at hls
        obtain ⟨cut, O, V⟩ := p
        unfold stepL at hls
        simp only at d0 d1 d2 hls
        generalize lastP (l.take k) x = v at *
        generalize hv2 : lastP (l.take (k + 1)) x = v2 at *
        have HV2 := Lib.hid hv2
        clear hv2 hts hp hh
        rcases cut with _ | _
        · simp only [Bool.false_eq_true, if_false] at hls
          by_cases e : O = x
          · rw [if_pos e] at hls
            have e1 : (O == x) = true := by simpa using e
            have HLS := Lib.hid hls
            clear hls e
            go_wp2_with fail
            go_roundw
            case rel => exact ⟨k + 1, by omega, by omega, by go_num, by rw [HV2.out, HLS.out], trivial⟩
            case measure => simp [intOf]; omega
          · rw [if_neg e] at hls
            have e1 : (O == x) = false := by simpa using e
            have HLS := Lib.hid hls
            clear hls e
            go_wp2_with fail
            go_roundw
            case rel => exact ⟨k + 1, by omega, by omega, by go_num, by rw [HV2.out, HLS.out], trivial⟩
            case measure => simp [intOf]; omega
        · simp only [if_true] at hls
          by_cases e : O ≤ x
          · rw [if_pos e] at hls
            have HLS := Lib.hid hls
            clear hls
            go_wp2_with fail
            go_roundw
            case rel => exact ⟨k + 1, by omega, by omega, by go_num, by rw [HV2.out, HLS.out], trivial⟩
            case measure => simp [intOf]; omega
          · rw [if_neg e] at hls
            have HLS := Lib.hid hls
            clear hls
            go_wp2_with fail
            go_roundw
            case rel => exact ⟨k + 1, by omega, by omega, by go_num, by rw [HV2.out, HLS.out], trivial⟩
            case measure => simp [intOf]; omega
      · have hk5 : k = 400 := by omega
        subst hk5
        go_wp2_with fail
        go_ret
        exact ⟨rfl, rfl⟩
    · have hE := Lib.hid (show lastP (l.take k) x = lastP (l.take 400) x by rw [List.take_of_length_le (by omega), List.take_of_length_le (by omega)])
      go_wp2_with fail
      go_ret
      exact ⟨ret_int hE.out, rfl⟩

/-- behind k steps -/
structure GrI (w : World) (f : Nat → Int) (W : World) : Prop where
  tree : ∃ lb, TreeI W (w.heap.size + 1) f lb ∧ ∀ b, lb b ≠ 0 → w.heap.size ≤ b
  bel : Below w.heap.size w W

set_option maxRecDepth 100000 in
set_option maxHeartbeats 8000000 in
theorem grown_any (w : World) (A : Option Addr) (n c : Nat) (l : List PutV) (hr : RdT w A n c l) : Calls Try.prog 17 #[.slice A n c] w fun e w' => e = .returned (.tuple #[.pointer (some ⟨w.heap.size + 1, 0, none⟩), .bool true]) ∧ GrI w (runP (l.take 400)) w' := by
  have hln := hr.1
  have hnc := hr.2.1
  have hn := hr.2.2.1
  have HR := Lib.hid hr
  clear hr
  go_enter Try.func17, Try.ntmps17
  go_wp2_with fail
  refine (new_tree w).mono ?_
  rintro e w1 ⟨rfl, ht1, hb1, hs1⟩
  have HS0 : Hid (GrI w (runP (l.take 0)) w1) := ⟨⟨_, ht1, fun b hb => (lbNew_ge hb).1⟩, hb1⟩
  clear ht1 hb1 hs1
  go_wp2_with fail
  go_loopw [5] (fun v5 wr => ∃ k : Nat, k ≤ n ∧ k ≤ 400 ∧ v5 = .int .i64 k ∧ Hid (GrI w (runP (l.take k)) wr)) (fun v5 _ => n - (intOf v5).toNat)
  case atStart => exact ⟨0, by omega, by omega, rfl, HS0⟩
  case round =>
    clear HS0
    obtain ⟨k, hk, hk4, rfl, HS⟩ := hrel
    by_cases hlt : k < n
    · by_cases h400 : k < 400
      · obtain ⟨_, _, _, hok, hrd⟩ := HR.out.below HS.out.bel
        obtain ⟨b0, off0, e0, hbw, _⟩ := HR.out.2.2.2.2 (by omega)
        obtain ⟨b, off, rfl, _, hh⟩ := hrd (by omega)
        obtain ⟨rfl, rfl⟩ : b = b0 ∧ off = off0 := by injection e0 with e0; injection e0 with e1 e2; exact ⟨e1, e2⟩
        obtain ⟨p, hp⟩ : ∃ p, l[k]? = some p := ⟨_, List.getElem?_eq_getElem (by omega)⟩
        obtain ⟨d0, d1, d2⟩ := hh k p hp
        have hts := take_succ_get l k p hp
        have hls := runP_snoc (l.take k) p
        rw [← hts] at hls
        have hO := (hok p (List.mem_of_getElem? hp)).1
        obtain ⟨cut, O, V⟩ := p
        unfold stepP at hls
        simp only at d0 d1 d2 hls hO
        obtain ⟨lb, ht, hl⟩ := HS.out.tree
        have hnb : ¬ Of lb b := fun h => by have := hl b h; omega
        have HBEL := Lib.hid HS.out.bel
        have HT := Lib.hid ht
        have HL := Lib.hid hl
        clear hts hp hh hok hrd ht hl HS e0
        rcases cut with _ | _
        · simp only [Bool.false_eq_true, if_false] at hls
          have HSET := Lib.hid (set_all wr.drew _ _ lb (HT.out.below (drewN_below wr 1)) O V)
          have HLS := Lib.hid hls
          clear hls
          go_wp2_with fail
          · skip
            refine wp_region_held_drew (S := fun X : World => X.cell? ⟨b, off + k * 3 + 1, none⟩ = some (.int .i64 O) ∧ X.cell? ⟨b, off + k * 3 + 2, none⟩ = some (.int .i64 V)) (by kernel_rfl) (show ((fun X : World => X.cell? ⟨b, off + k * 3 + 1, none⟩ = some (.int .i64 O) ∧ X.cell? ⟨b, off + k * 3 + 2, none⟩ = some (.int .i64 V)) wr.drew) from ⟨d1, d2⟩) (fun hS => ?_)
            refine takeD (i := 0) (v := .pointer (some ⟨w.heap.size + 1, 0, none⟩)) 35 rfl rfl (by kernel_rfl) (by kernel_rfl) (by kernel_rfl) (fun _ _ _ h => h) (Or.inl ⟨by rfl, fun X hX => by go_simp⟩) hS ?_
            simp only [Act.put, List.setIfInBounds_toArray, List.set_cons_zero, List.set_cons_succ]
            refine takeD (i := 1) (v := .slice (some ⟨b, off, none⟩) n c) 36 rfl rfl (by kernel_rfl) (by kernel_rfl) (by kernel_rfl) (fun _ _ _ h => h) (Or.inl ⟨by rfl, fun X hX => by go_simp⟩) hS ?_
            simp only [Act.put, List.setIfInBounds_toArray, List.set_cons_zero, List.set_cons_succ]
            refine takeD (i := 2) (v := .int .i64 (k : Int)) 37 rfl rfl (by kernel_rfl) (by kernel_rfl) (by kernel_rfl) (fun _ _ _ h => h) (Or.inl ⟨by rfl, fun X hX => by go_simp⟩) hS ?_
            simp only [Act.put, List.setIfInBounds_toArray, List.set_cons_zero, List.set_cons_succ]
            refine takeD (i := 3) (v := .pointer (some ⟨b, off + k * 3, none⟩)) 38 rfl rfl (by kernel_rfl) (by kernel_rfl) (by kernel_rfl) (fun _ _ _ h => h) (Or.inl ⟨by rfl, fun X hX => by go_simp; try (intro h; omega)⟩) hS ?_
            simp only [Act.put, List.setIfInBounds_toArray, List.set_cons_zero, List.set_cons_succ]
            refine takeD (i := 4) (v := .pointer (some ⟨b, off + k * 3 + 1, none⟩)) 39 rfl rfl (by kernel_rfl) (by kernel_rfl) (by kernel_rfl) (fun _ _ _ h => h) (Or.inl ⟨by rfl, fun X hX => by go_simp⟩) hS ?_
            simp only [Act.put, List.setIfInBounds_toArray, List.set_cons_zero, List.set_cons_succ]
            refine takeD (i := 5) (v := .int .i64 O) 40 rfl rfl (by kernel_rfl) (by kernel_rfl) (by kernel_rfl) (fun _ _ _ h => h) (Or.inl ⟨by rfl, fun X hX => by have hc := hX.1; go_simp⟩) hS ?_
            simp only [Act.put, List.setIfInBounds_toArray, List.set_cons_zero, List.set_cons_succ]
            refine takeD (i := 6) (v := .slice (some ⟨b, off, none⟩) n c) 41 rfl rfl (by kernel_rfl) (by kernel_rfl) (by kernel_rfl) (fun _ _ _ h => h) (Or.inl ⟨by rfl, fun X hX => by go_simp⟩) hS ?_
            simp only [Act.put, List.setIfInBounds_toArray, List.set_cons_zero, List.set_cons_succ]
            refine takeD (i := 7) (v := .int .i64 (k : Int)) 42 rfl rfl (by kernel_rfl) (by kernel_rfl) (by kernel_rfl) (fun _ _ _ h => h) (Or.inl ⟨by rfl, fun X hX => by go_simp⟩) hS ?_
            simp only [Act.put, List.setIfInBounds_toArray, List.set_cons_zero, List.set_cons_succ]
            refine takeD (i := 8) (v := .pointer (some ⟨b, off + k * 3, none⟩)) 43 rfl rfl (by kernel_rfl) (by kernel_rfl) (by kernel_rfl) (fun _ _ _ h => h) (Or.inl ⟨by rfl, fun X hX => by go_simp; try (intro h; omega)⟩) hS ?_
            simp only [Act.put, List.setIfInBounds_toArray, List.set_cons_zero, List.set_cons_succ]
            refine takeD (i := 9) (v := .pointer (some ⟨b, off + k * 3 + 2, none⟩)) 44 rfl rfl (by kernel_rfl) (by kernel_rfl) (by kernel_rfl) (fun _ _ _ h => h) (Or.inl ⟨by rfl, fun X hX => by go_simp⟩) hS ?_
            simp only [Act.put, List.setIfInBounds_toArray, List.set_cons_zero, List.set_cons_succ]
            refine takeD (i := 10) (v := .int .i64 V) 45 rfl rfl (by kernel_rfl) (by kernel_rfl) (by kernel_rfl) (fun _ _ _ h => h) (Or.inl ⟨by rfl, fun X hX => by have hc := hX.2; go_simp⟩) hS ?_
            simp only [Act.put, List.setIfInBounds_toArray, List.set_cons_zero, List.set_cons_succ]
            refine wpAnyH_ready (rs := [11]) (by kernel_rfl) (by simp) (AllReadyH.cons rfl (fun K hK => ?_) AllReadyH.nil)
            go_simp
            refine (HSET.out).mono ?_
            rintro e W2 ⟨rfl, lb2, ht2, hx2, hc2⟩
            refine hK.out _ _ ⟨cell_chg hc2 hS.1 hnb, cell_chg hc2 hS.2 hnb⟩ (fun h2 => ?_)
            clear hK K
            refine takeD (i := 12) (v := .tuple #[.int .i64 (getV (runP (l.take k)) O), .int .i64 (setE O)]) 34 rfl rfl (by kernel_rfl) (by kernel_rfl) (by kernel_rfl) (fun _ _ _ h => h) (Or.inl ⟨by rfl, fun X hX => by go_simp⟩) h2 ?_
            simp only [Act.put, List.setIfInBounds_toArray, List.set_cons_zero, List.set_cons_succ]
            refine takeD (i := 13) (v := .int .i64 (getV (runP (l.take k)) O)) 47 rfl rfl (by kernel_rfl) (by kernel_rfl) (by kernel_rfl) (fun _ _ _ h => h) (Or.inl ⟨by rfl, fun X hX => by go_simp⟩) h2 ?_
            simp only [Act.put, List.setIfInBounds_toArray, List.set_cons_zero, List.set_cons_succ]
            refine takeD (i := 14) (v := .int .i64 (setE O)) 48 rfl rfl (by kernel_rfl) (by kernel_rfl) (by kernel_rfl) (fun _ _ _ h => h) (Or.inl ⟨by rfl, fun X hX => by go_simp⟩) h2 ?_
            simp only [Act.put, List.setIfInBounds_toArray, List.set_cons_zero, List.set_cons_succ]
            refine takeD (i := 15) (v := .int .i64 (getV (runP (l.take k)) O)) 6 rfl rfl (by kernel_rfl) (by kernel_rfl) (by kernel_rfl) (fun _ _ _ h => h) (Or.inl ⟨by rfl, fun X hX => by go_simp⟩) h2 ?_
            simp only [Act.put, List.setIfInBounds_toArray, List.set_cons_zero, List.set_cons_succ]
            refine takeD (i := 16) (v := .int .i64 (setE O)) 7 rfl rfl (by kernel_rfl) (by kernel_rfl) (by kernel_rfl) (fun _ _ _ h => h) (Or.inl ⟨by rfl, fun X hX => by go_simp⟩) h2 ?_
            simp only [Act.put, List.setIfInBounds_toArray, List.set_cons_zero, List.set_cons_succ]
            refine wpAnyH_done (by kernel_rfl) ?_ _
            replace d1 := cell_chg hc2 (show wr.drew.cell? _ = _ from d1) hnb
            have HE : Hid (GrI w (runP (l.take (k + 1))) W2) := by
              rw [HLS.out]
              have hszz := HBEL.out.size
              refine ⟨⟨lb2, ht2, fun b hb => (hx2.1 b hb).elim (HL.out b) (fun e => Nat.le_trans hszz e)⟩, ?_⟩
              exact (HBEL.out.trans ⟨rfl, rfl, rfl, Nat.le_refl _, fun _ _ => rfl⟩ : Below w.heap.size w wr.drew).trans (hc2.below _ hszz (fun b hb e => by have := HL.out b e; omega))
            clear hc2 ht2 hx2 h2 hS HSET HLS
            have hcase : (0 ≤ O ∧ O < 512) ∨ O < 0 ∨ (0 ≤ O ∧ 512 ≤ O) := by omega
            rcases hcase with ⟨g1, g2⟩ | g1 | ⟨g1, g2⟩
            · have hse : setE O = 0 := if_pos ⟨g1, g2⟩
              rw [hse]
              go_wp2_with fail
              go_roundw
              case rel => exact ⟨k + 1, by omega, by omega, by go_num, HE⟩
              case measure => simp [intOf]; omega
            · have hse : setE O = 70 := if_neg (fun h => by have := h.1; omega)
              rw [hse]
              go_wp2_with fail
              go_roundw
              case rel => exact ⟨k + 1, by omega, by omega, by go_num, HE⟩
              case measure => simp [intOf]; omega
            · have hse : setE O = 70 := if_neg (fun h => by have := h.2; omega)
              rw [hse]
              go_wp2_with fail
              go_roundw
              case rel => exact ⟨k + 1, by omega, by omega, by go_num, HE⟩
              case measure => simp [intOf]; omega
        · simp only [if_true] at hls
          have HLS := Lib.hid hls
          clear hls
          go_wp2_with fail
          refine (cut_calls wr _ _ lb HT.out O hO).mono ?_
          rintro e W2 ⟨v, rfl, _, ht2, hc2⟩
          have HE : Hid (GrI w (runP (l.take (k + 1))) W2) := by
            rw [HLS.out]
            exact ⟨⟨lb, ht2, HL.out⟩, HBEL.out.trans (hc2.below _ HBEL.out.size (fun b hb e => by have := HL.out b e; omega))⟩
          clear ht2 hc2
          go_wp2_with fail
          go_roundw
          case rel => exact ⟨k + 1, by omega, by omega, by go_num, HE⟩
          case measure => simp [intOf]; omega
      · have hk5 : k = 400 := by omega
        subst hk5
        go_wp2_with fail
        go_ret2
        exact ⟨rfl, HS.out⟩
    · have hE := Lib.hid (show l.take k = l.take 400 by rw [List.take_of_length_le (by omega), List.take_of_length_le (by omega)])
      go_wp2_with fail
      go_ret2
      exact ⟨rfl, by rw [← hE.out]; exact HS.out⟩

end Go.Proofs.Ytfljnfmocmhhdaa
