/-
asks: Set, Get, Len, Cut, Runs, of a program's tree and the document's.
-/
import Derived.Test.YtfljnfmocmhhdaaState
namespace Go.Proofs.Ytfljnfmocmhhdaa
open Go.RowKit

abbrev inO (O : Int) : Prop := 0 ≤ O ∧ O < 512
def getV (f : Nat → Int) (O : Int) : Int := if inO O then f O.toNat else 0
def setE (O : Int) : Int := if inO O then 0 else 70
def updI (f : Nat → Int) (O V : Int) : Nat → Int := if inO O then upd f O.toNat V else f

theorem inO_not {O : Int} (h : ¬ inO O) : O < 0 ∨ 512 ≤ O := by unfold inO at h; omega
theorem inO_nat {O : Int} (h : inO O) : ∃ k : Nat, O = k ∧ k < 512 := by
  obtain ⟨k, rfl⟩ := Int.eq_ofNat_of_zero_le h.1
  exact ⟨k, rfl, by have := h.2; omega⟩
theorem In64.updI {f : Nat → Int} (h : In64 f) (O V : Int) (hV : -9223372036854775808 ≤ V ∧ V ≤ 9223372036854775807) : In64 (updI f O V) := by
  unfold Ytfljnfmocmhhdaa.updI
  split
  · intro i hi
    unfold upd
    split
    · exact hV
    · exact h i hi
  · exact h
theorem In64.cutI {f : Nat → Int} (h : In64 f) (O : Int) : In64 (cutI f O) := by
  intro i hi
  unfold Ytfljnfmocmhhdaa.cutI
  split
  · omega
  · exact h i hi

theorem set_all (w : World) (r : Nat) (f : Nat → Int) (lb : Nat → Nat) (h : TreeI w r f lb) (O V : Int) :
    Calls Try.prog 21 #[.pointer (some ⟨r, 0, none⟩), .int .i64 O, .int .i64 V] w fun e w' => e = .returned (.tuple #[.int .i64 (getV f O), .int .i64 (setE O)]) ∧ ∃ lb', TreeI w' r (updI f O V) lb' ∧ Ext w lb lb' ∧ Chg (Of lb) w w' := by
  by_cases hin : inO O
  · simp only [getV, setE, updI, if_pos hin]
    obtain ⟨k, rfl, hk⟩ := inO_nat hin
    exact set_any w r f lb h k hk V
  · simp only [getV, setE, updI, if_neg hin]
    refine (set_out w r O V (inO_not hin)).mono ?_
    rintro e w' ⟨rfl, rfl⟩
    exact ⟨rfl, lb, h, Ext.refl _ _, Chg.refl _ _⟩
theorem ref_set_all (w : World) (q : Nat) (f : Nat → Int) (h : RefT w q f) (O V : Int) : Calls Try.prog 69 #[.pointer (some ⟨q, 0, none⟩), .int .i64 O, .int .i64 V] w fun e w' =>
    e = .returned (.tuple #[.int .i64 (getV f O), .int .i64 (setE O)]) ∧ RefT w' q (updI f O V) ∧ Chg (fun b => b = q) w w' := by
  by_cases hin : inO O
  · simp only [getV, setE, updI, if_pos hin]
    obtain ⟨k, rfl, hk⟩ := inO_nat hin
    exact ref_set w q f h k hk V
  · simp only [getV, setE, updI, if_neg hin]
    refine (ref_set_out w q O V (inO_not hin)).mono ?_
    rintro e w' ⟨rfl, rfl⟩
    exact ⟨rfl, h, Chg.refl _ _⟩
theorem get_all (w : World) (r : Nat) (f : Nat → Int) (lb : Nat → Nat) (h : TreeI w r f lb) (O : Int) :
    Calls Try.prog 23 #[.pointer (some ⟨r, 0, none⟩), .int .i64 O] w fun e w' => e = .returned (.int .i64 (getV f O)) ∧ w = w' := by
  by_cases hin : inO O
  · simp only [getV, if_pos hin]
    obtain ⟨k, rfl, hk⟩ := inO_nat hin
    exact get_any w r f lb h k hk
  · simp only [getV, if_neg hin]
    exact get_out w r O (inO_not hin)
theorem ref_get_all (w : World) (q : Nat) (f : Nat → Int) (h : RefT w q f) (O : Int) : Calls Try.prog 70 #[.pointer (some ⟨q, 0, none⟩), .int .i64 O] w fun e w' => e = .returned (.int .i64 (getV f O)) ∧ w = w' := by
  by_cases hin : inO O
  · simp only [getV, if_pos hin]
    obtain ⟨k, rfl, hk⟩ := inO_nat hin
    exact ref_get w q f h k hk
  · simp only [getV, if_neg hin]
    exact ref_get_out w q O (inO_not hin)

theorem drewN_below (w : World) (n : Nat) : Below w.heap.size w (w.drewN n) := ⟨rfl, rfl, rfl, Nat.le_refl _, fun _ _ => rfl⟩
theorem place_q (x : Int) (w : World) (n : Nat) : Calls Try.prog 43 #[.int .i64 x] (w.drewN n) fun e w' => e = .returned (.int .i64 (plc x : Nat)) ∧ ∃ m, w' = w.drewN m :=
  (place_any x _).mono fun _ _ ⟨h, k⟩ => ⟨h, n, k.symm⟩
theorem get_q (w : World) (r : Nat) (f : Nat → Int) (lb : Nat → Nat) (h : TreeI w r f lb) (O : Int) (n : Nat) :
    Calls Try.prog 23 #[.pointer (some ⟨r, 0, none⟩), .int .i64 O] (w.drewN n) fun e w' => e = .returned (.int .i64 (getV f O)) ∧ ∃ m, w' = w.drewN m :=
  (get_all _ r f lb (h.below (drewN_below w n)) O).mono fun _ _ ⟨h, k⟩ => ⟨h, n, k.symm⟩
theorem ref_get_q (w : World) (q : Nat) (f : Nat → Int) (h : RefT w q f) (O : Int) (n : Nat) : Calls Try.prog 70 #[.pointer (some ⟨q, 0, none⟩), .int .i64 O] (w.drewN n) fun e w' => e = .returned (.int .i64 (getV f O)) ∧ ∃ m, w' = w.drewN m :=
  (ref_get_all _ q f (h.below (drewN_below w n)) O).mono fun _ _ ⟨h, k⟩ => ⟨h, n, k.symm⟩
theorem runs_calls (w : World) (r : Nat) (f : Nat → Int) (lb : Nat → Nat) (h : TreeI w r f lb) :
    Calls Try.prog 37 #[.pointer (some ⟨r, 0, none⟩)] w fun e w' => ∃ v, e = .returned v ∧
      w'.ownsRow w.heap.size 66 3 v (runsOf (items f 0 0 512)).length (cellsR (runsOf (items f 0 0 512))) ∧ Below w.heap.size w w' :=
  callsIn_wide.1 (runs_any w r f lb h)
theorem runs_len (f : Nat → Int) : (runsOf (items f 0 0 512)).length ≤ 512 := by
  have h1 := (runsOf_inv (items f 0 0 512) (fun x hx => (items_mem hx).1)).2
  have h2 := items_len f 0 0 512
  omega

theorem cell_chg {D : Nat → Prop} {w w' : World} {b o : Nat} {v : Value} (hc : Chg D w w') (h : w.cell? ⟨b, o, none⟩ = some v) (hn : ¬ D b) : w'.cell? ⟨b, o, none⟩ = some v := by
  rw [← h]
  exact World.cell?_of_block (hc.block b (World.block_lt_of_cell? w _ h) hn)
theorem St.ask2 {w W3 W4 : World} {g : Nat} {r q : Nat → Nat} {f : Nat → Nat → Int} {lb : Nat → Nat → Nat} (h : St w 3 g r q f lb W3) {d : Nat} (hd : d < 3) {f' : Nat → Int} {lb' : Nat → Nat} {W5 : World} (hc1 : Chg (Of (lb d)) W3 W4) (hx : Ext W3 (lb d) lb') (ht : TreeI W4 (r d) f' lb')
    (hc2 : Chg (fun b => b = q d) W4 W5) (hr : RefT W5 (q d) f') (h64 : In64 f') : St w 3 g r q (upd f d f') (upd lb d lb') W5 := by
  refine h.ask hd ((hc1.mono (fun _ _ e => Or.inl e)).trans hc2 (fun _ _ e => Or.inr e)) (ht.chg hc2 ?_) hr h64 (fun b hb => hx.1 b hb)
  rintro b hb rfl
  rcases hx.1 _ hb with h1 | h1
  · exact (h.lowl d hd _ h1).2.2 d hd rfl
  · have := (h.ref d hd).lt; omega

/-- an own block of five cells that no other has -/
theorem box5 (w : World) (v0 v1 v2 v3 v4 : Value) (t : TypeId) (W : World) (hW : w.alloc (.cells #[v0, v1, v2, v3, v4] t) = W) :
    Below w.heap.size w W ∧ W.cell? ⟨w.heap.size, 0, none⟩ = some v0 ∧ W.cell? ⟨w.heap.size, 1, none⟩ = some v1 ∧ W.cell? ⟨w.heap.size, 2, none⟩ = some v2 ∧ W.cell? ⟨w.heap.size, 3, none⟩ = some v3 ∧ W.cell? ⟨w.heap.size, 4, none⟩ = some v4 ∧ W.heap.size = w.heap.size + 1 := by
  subst hW
  have h := heap_alloc_new w (.cells #[v0, v1, v2, v3, v4] t)
  refine ⟨(Below.refl _ _).alloc (Nat.le_refl _) _, ?_, ?_, ?_, ?_, ?_, by simp⟩ <;> rw [cell_of_row _ _ _ _ _ _ h] <;> rfl

set_option maxRecDepth 100000 in
set_option maxHeartbeats 4000000 in
theorem asks_any (w W : World) (g : Nat) (r q : Nat → Nat) (f : Nat → Nat → Int) (lb : Nat → Nat → Nat) (h : St w 3 g r q f lb W) (K D O V : Int) (A : Option Addr) (n c : Nat)
    (hO : -9223372036854775808 ≤ O) (hV : -9223372036854775808 ≤ V ∧ V ≤ 9223372036854775807) :
    Calls Try.prog 61 #[.pointer (some ⟨g, 0, none⟩), .agg #[.int .i64 K, .int .i64 D, .int .i64 O, .int .i64 V, .slice A n c]] W fun e W' => e = .returned (.bool true) ∧ ∃ f' lb', St w 3 g r q f' lb' W' := by
  have H := Lib.hid h
  have HV := Lib.hid hV
  clear h hV
  go_enter Try.func61, Try.ntmps61
  obtain ⟨W1, hW1⟩ : ∃ X, W.alloc (.cells #[.int .i64 K, .int .i64 D, .int .i64 O, .int .i64 V, .slice A n c] 78) = X := ⟨_, rfl⟩
  obtain ⟨hb, b0, b1, b2, b3, b4, hs⟩ := box5 _ _ _ _ _ _ _ _ hW1
  go_wp2_with (rw [hW1])
  have hd := plc_lt D
  have HP := Lib.hid (place_q D)
  have H1 := Lib.hid (H.out.below hb)
  have HLT := Lib.hid (fun b (hb : lb (plc D) b ≠ 0) => (H.out.tree (plc D) hd).dom b hb)
  have HLQ := Lib.hid (H.out.ref (plc D) hd).lt
  have p0 := H1.out.cell_p (plc D) hd
  have p1 := H1.out.cell_q (plc D) hd
  generalize plc D = d at *
  clear hW1 hb b4 H
  go_quiet (exact HP.out _ _)
  obtain ⟨W2, hW2⟩ : ∃ X, W1.drewN nq = X := ⟨_, rfl⟩
  have H2 := Lib.hid (H1.out.below (drewN_below W1 nq))
  rw [hW2] at H2 ⊢
  replace b0 : W2.cell? ⟨W.heap.size, 0, none⟩ = some (.int .i64 K) := by rw [← hW2]; exact b0
  replace b1 : W2.cell? ⟨W.heap.size, 1, none⟩ = some (.int .i64 D) := by rw [← hW2]; exact b1
  replace b2 : W2.cell? ⟨W.heap.size, 2, none⟩ = some (.int .i64 O) := by rw [← hW2]; exact b2
  replace b3 : W2.cell? ⟨W.heap.size, 3, none⟩ = some (.int .i64 V) := by rw [← hW2]; exact b3
  replace hs : W2.heap.size = W.heap.size + 1 := by rw [← hW2]; exact hs
  clear hW2 H1 p0 p1 W1
  have p1 := H2.out.cell_q d hd
  go_wp2_with fail
  go_quiet (exact HP.out _ _)
  obtain ⟨W3, hW3⟩ : ∃ X, W2.drewN nq = X := ⟨_, rfl⟩
  have H3 := Lib.hid (H2.out.below (drewN_below W2 nq))
  rw [hW3] at H3 ⊢
  replace b0 : W3.cell? ⟨W.heap.size, 0, none⟩ = some (.int .i64 K) := by rw [← hW3]; exact b0
  replace b2 : W3.cell? ⟨W.heap.size, 2, none⟩ = some (.int .i64 O) := by rw [← hW3]; exact b2
  replace b3 : W3.cell? ⟨W.heap.size, 3, none⟩ = some (.int .i64 V) := by rw [← hW3]; exact b3
  replace hs : W3.heap.size = W.heap.size + 1 := by rw [← hW3]; exact hs
  clear hW3 H2 p1 b1 HP W2
  have HT := Lib.hid (H3.out.tree d hd)
  have HR := Lib.hid (H3.out.ref d hd)
  have HE := Lib.hid (fun b (hb : lb d b ≠ 0) => (H3.out.lowl d hd b hb).2.2 d hd)
  have hk : K = 1 ∨ K = 2 ∨ K = 3 ∨ K = 4 ∨ (K ≠ 1 ∧ K ≠ 2 ∧ K ≠ 3 ∧ K ≠ 4) := by omega
  rcases hk with rfl | rfl | rfl | rfl | ⟨h1, h2, h3, h4⟩
  · have H64 := Lib.hid ((H3.out.in64 d hd).updI O V HV.out)
    go_wp2_with fail
    refine (set_all W3 (r d) (f d) (lb d) HT.out O V).mono ?_
    rintro e W4 ⟨rfl, lb', ht, hx, hc1⟩
    have hr4 := HR.out.chg hc1 (fun e => HE.out _ e rfl)
    replace b2 := cell_chg hc1 b2 (fun e => by have := HLT.out _ e; omega)
    replace b3 := cell_chg hc1 b3 (fun e => by have := HLT.out _ e; omega)
    have HA := Lib.hid (fun W5 => H3.out.ask2 (W5 := W5) hd hc1 hx ht)
    clear hc1 ht hx
    go_wp2_with fail
    refine (ref_set_all W4 (q d) (f d) hr4 O V).mono ?_
    rintro e W5 ⟨rfl, hr5, hc2⟩
    have HZ := Lib.hid (HA.out W5 hc2 hr5 H64.out)
    clear hr5 hc2 HA hr4
    go_wp2_with fail
    go_ret
    exact ⟨rfl, _, _, HZ.out⟩
  · have HG1 := Lib.hid (get_q W3 (r d) (f d) (lb d) HT.out O)
    have HG2 := Lib.hid (ref_get_q W3 (q d) (f d) HR.out O)
    go_wp2_with fail
    go_quiet (first | exact HG1.out _ | exact HG2.out _)
    go_wp2_with fail
    go_ret
    exact ⟨rfl, _, _, H3.out.below (drewN_below _ _)⟩
  · go_wp2_with fail
    refine (len_any W3 (r d) (f d) (lb d) HT.out).mono ?_
    rintro e W4 ⟨rfl, rfl⟩
    go_wp2_with fail
    refine (ref_len W3 (q d) (f d) HR.out).mono ?_
    rintro e W4 ⟨rfl, hb⟩
    have HZ := Lib.hid (H3.out.below hb)
    clear hb
    go_wp2_with fail
    go_ret
    exact ⟨rfl, _, _, HZ.out⟩
  · have H64 := Lib.hid ((H3.out.in64 d hd).cutI O)
    go_wp2_with fail
    refine (cut_calls W3 (r d) (f d) (lb d) HT.out O hO).mono ?_
    rintro e W4 ⟨v1, rfl, ho1, ht, hc1⟩
    have hr4 := HR.out.chg hc1 (fun e => HE.out _ e rfl)
    replace b2 := cell_chg hc1 b2 (fun e => by have := HLT.out _ e; omega)
    have HA := Lib.hid (fun W5 => H3.out.ask2 (W5 := W5) hd hc1 (Ext.refl _ _) ht)
    clear hc1 ht
    go_wp2_with fail
    refine (ref_cut W4 (q d) (f d) hr4 O).mono ?_
    rintro e W5 ⟨v2, rfl, ho2, hr5, hc2⟩
    have hl := items_len (f d) 0 O 512
    have ho1' := own_chg ho1 hc2 (fun k hk e => by have := (ho1.lt k hk).1; have := HLQ.out; omega)
    rw [show (items (f d) 0 O 512).length = ((items (f d) 0 O 512).map Prod.snd).length by simp] at ho1' ho2
    rw [show (items (f d) 0 O 512).map (fun x => Value.int .i64 x.2) = ((items (f d) 0 O 512).map Prod.snd).map (fun x => Value.int .i64 x) by simp] at ho1' ho2
    have hl2 : ((items (f d) 0 O 512).map Prod.snd).length ≤ 512 := by simpa using hl
    clear ho1
    generalize (items (f d) 0 O 512).map Prod.snd = L at *
    obtain ⟨A1, c1, rfl, hr1⟩ := RdI.own ho1' (by omega)
    obtain ⟨A2, c2, rfl, hr2⟩ := RdI.own ho2 (by omega)
    have HZ := Lib.hid (HA.out W5 hc2 hr5 H64.out)
    have HS := Lib.hid (sameInts_yes _ A1 A2 _ c1 c2 W5 hr1 hr2)
    clear hr5 hc2 HA hr4 ho2 ho1' hr1 hr2 hl hl2
    go_wp2_with fail
    refine HS.out.mono ?_
    rintro e W6 ⟨rfl, hb⟩
    have HY := Lib.hid (HZ.out.below hb)
    clear hb
    go_wp2_with fail
    go_ret
    exact ⟨rfl, _, _, HY.out⟩
  · go_wp2_with fail
    refine (runs_calls W3 (r d) (f d) (lb d) HT.out).mono ?_
    rintro e W4 ⟨v1, rfl, ho1, hb4⟩
    have hr4 := HR.out.below hb4
    have H64 := Lib.hid (H3.out.in64 d hd)
    go_wp2_with fail
    refine (ref_runs W4 (q d) (f d) hr4 H64.out).mono ?_
    rintro e W5 ⟨v2, rfl, ho2, hb5⟩
    have hl := runs_len (f d)
    have ho1' := own_chg ho1 (Chg.of_below (fun _ => False) hb5) (fun _ _ e => e)
    clear ho1
    generalize runsOf (items (f d) 0 0 512) = L at *
    obtain ⟨A1, c1, rfl, hr1, _⟩ := RdR.own ho1' (by omega)
    obtain ⟨A2, c2, rfl, hr2, _⟩ := RdR.own ho2 (by omega)
    have HZ := Lib.hid ((H3.out.below hb4).below hb5)
    have HS := Lib.hid (sameRuns_yes _ A1 A2 _ c1 c2 W5 hr1 hr2)
    clear hb4 hb5 hr4 ho2 ho1' hr1 hr2 hl
    go_wp2_with fail
    refine HS.out.mono ?_
    rintro e W6 ⟨rfl, hb⟩
    have HY := Lib.hid (HZ.out.below hb)
    clear hb
    go_wp2_with fail
    go_ret
    exact ⟨rfl, _, _, HY.out⟩

end Go.Proofs.Ytfljnfmocmhhdaa
