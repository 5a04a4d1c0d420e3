/-
What the statement CodecTells computes: true.
-/
import Derived.Test.YtelhmddigogmgaaDoorAlg
import Derived.Test.YtelhmddigogmgaaDoorOpen
namespace Go.Proofs.YtelhmddigogmgaaDoor
open Go.RowKit

theorem NewBytes.rd {B : Nat} {w w' : World} {v : Value} {l : List Nat} (h : NewBytes B w w' v l) (hn : l.length ≤ 140737488355328) : ∃ A, v = .slice A l.length l.length ∧ Rd w' .u8 A l.length l.length l := by
  obtain ⟨g, rfl, _, hg, _⟩ := h
  exact ⟨_, rfl, Rd.block l.length l.length hg (by rw [← vals_len .u8 l, u8s]; simp) rfl (Nat.le_refl _) (by omega) hn⟩
theorem Rd.cells {w : World} {g : Nat} {l : List Nat} (hg : w.heap[g]? = some (.cells (u8s l) 5 (0, 0))) (n : Nat) (hl : l.length = n) (hn : n ≤ 140737488355328) : Rd w .u8 (some ⟨g, 0, none⟩) n n l :=
  Rd.block n n hg (by subst hl; rw [← vals_len .u8 l, u8s]; simp) hl (Nat.le_refl _) (by omega) hn

set_option maxHeartbeats 1000000 in
theorem CodecTells.walk (W : World) (v0 : Value) (o0 : Nums W .u8 256 1 v0) (a : Int) (_ : (Lit.int .i64 a).wf = true) (m : Int) (wm : (Lit.int .u32 m).wf = true) (ht : Tab W) :
    Calls Tryd.prog 6 #[v0, .int .i64 a, .int .u32 m] W fun e w' => e = .returned (.bool true) ∧ Below W.heap.size W w' := by
  obtain ⟨A, n, c, l, rfl, hr, hx, hn2⟩ := o0
  obtain ⟨m0, m1⟩ := bounds_u32 wm
  obtain ⟨m, rfl⟩ := Int.eq_ofNat_of_zero_le m0
  have hn := hr.lt
  have H := Lib.hid (fixed_any W ht)
  have Ht := Lib.hid ht
  have Hr := Lib.hid hr
  have Ht0 := Lib.hid ht
  clear ht hr m0 wm hn2
  go_enter Tryd.func6, Tryd.ntmps6
  go_wp2_with fail
  refine H.out.mono ?_
  rintro e w1 ⟨rfl, hb⟩
  have T1 := Lib.hid (Ht.out.below hb)
  have R1 := Lib.hid (Hr.out.below hb)
  have HB := Lib.hid hb
  clear hb H Ht
  go_wp2_with fail
  refine (pad_any l _ _ _ n _ R1.out (by omega)).mono ?_
  rintro e w2 ⟨v, rfl, g, rfl, hg0, hg, hb2⟩
  have hpl : padN l n = l := by rw [← Hr.out.len]; exact range_nth l
  rw [hpl] at hg
  rw [hpl, Hr.out.len]
  have T2 := Lib.hid (T1.out.below hb2)
  have R2 := Lib.hid (R1.out.below hb2)
  have HB2 := Lib.hid (HB.out.trans (hb2.mono HB.out.size))
  have HG := Lib.hid hg
  have HG0 := Lib.hid hg0
  clear T1 R1 hb2 hg hg0 hpl
  go_wp2_with fail
  have e1 := place_any a (8 * n) w2 (by omega)
  have hp := placeN_le a (8 * n)
  rw [show ((8 * n : Nat) : Int) = 8 * (n : Int) from by simp] at e1
  generalize placeN a (8 * n) = p at *
  refine e1.mono ?_
  rintro e w3 ⟨rfl, rfl⟩
  clear e1
  go_wp2_with fail
  refine (turn_any l hx g n Hr.out.len hn p m hp (by omega) _ HG.out).mono ?_
  rintro e w3 ⟨rfl, hg3, hb3⟩
  have hgW : W.heap.size ≤ g := Nat.le_trans HB.out.size HG0.out
  have hgw : w1.heap.size ≤ g := HG0.out
  have HB3 := Lib.hid (HB2.out.trans (hb3.mono hgW))
  have T3 := Lib.hid (Ht0.out.below HB3.out)
  have R3 := Lib.hid (Hr.out.below HB3.out)
  have R4 := Lib.hid (Rd.cells hg3 n (by rw [turnK_len]; exact Hr.out.len) hn)
  have htell := sum_tells l hx p m (by rw [Hr.out.len]; exact hp)
  have hbt := turnK_byte hx p m 32
  have Ht := Lib.hid htell
  clear hb3 hg3 HB2 T2 R2 HG htell
  generalize (turnK l p m 32).1 = q at *
  generalize (turnK l p m 32).2 = b at *
  cases b with
  | false =>
    go_wp2_with fail
    go_ret
    exact ⟨rfl, HB3.out⟩
  | true =>
    have hne := Ht.out rfl
    clear Ht
    go_wp2_with fail
    refine (sum_any q hbt _ _ _ _ R4.out T3.out).mono ?_
    rintro e w4 ⟨rfl, rfl⟩
    go_wp2_with fail
    refine (sum_any l hx _ _ _ _ R3.out T3.out).mono ?_
    rintro e w4 ⟨rfl, rfl⟩
    have hb : (((sumN q : Nat) : Int) != ((sumN l : Nat) : Int)) = true := by simpa using (by omega : ¬ ((sumN q : Nat) : Int) = ((sumN l : Nat) : Int))
    generalize sumN q = x at *
    generalize sumN l = y at *
    clear hne
    go_wp2_with fail
    go_ret
    exact ⟨rfl, HB3.out⟩

end Go.Proofs.YtelhmddigogmgaaDoor
