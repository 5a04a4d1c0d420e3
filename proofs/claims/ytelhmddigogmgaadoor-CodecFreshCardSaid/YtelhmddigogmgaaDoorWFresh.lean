/-
What freshLines of the statements answers: true.
-/
import Derived.Test.YtelhmddigogmgaaDoorWLRow
import Derived.StillTailTactics
namespace Go.Proofs.YtelhmddigogmgaaDoor
open Go.RowKit

theorem line_vals (c : Int) (a k : Nat) (hc : c = a) : vals .u8 (ln a (k % 256)) = (.int .u8 c :: .int .u8 ((k : Int) % 256) :: .int .u8 0 :: .int .u8 0 :: .int .u8 0 :: .int .u8 0 :: .int .u8 0 :: .int .u8 0 :: .int .u8 0 :: .int .u8 0 :: .int .u8 0 :: .int .u8 0 :: .int .u8 0 :: .int .u8 0 :: .int .u8 0 :: .int .u8 0 :: .int .u8 0 :: .int .u8 0 :: .int .u8 0 :: .int .u8 0 :: .int .u8 0 :: .int .u8 0 :: .int .u8 0 :: .int .u8 0 :: .int .u8 0 :: .int .u8 0 :: .int .u8 0 :: .int .u8 0 :: .int .u8 0 :: .int .u8 0 :: .int .u8 0 :: .int .u8 0 :: .int .u8 0 :: .int .u8 0 :: .int .u8 0 :: .int .u8 0 :: .int .u8 0 :: .int .u8 0 :: .int .u8 0 :: .int .u8 0 :: .int .u8 0 :: .int .u8 0 :: .int .u8 0 :: .int .u8 0 :: .int .u8 0 :: .int .u8 0 :: .int .u8 0 :: .int .u8 0 :: .int .u8 0 :: .int .u8 0 :: .int .u8 0 :: .int .u8 0 :: .int .u8 0 :: .int .u8 0 :: .int .u8 0 :: .int .u8 0 :: .int .u8 0 :: .int .u8 0 :: .int .u8 0 :: .int .u8 0 :: .int .u8 0 :: .int .u8 0 :: .int .u8 0 :: .int .u8 0 :: []) := by
  subst hc
  rw [show (k : Int) % 256 = ((k % 256 : Nat) : Int) from by omega]
  rfl

theorem line2 : u8s (ln 2 0) = List.toArray (.int .u8 2 :: .int .u8 0 :: .int .u8 0 :: .int .u8 0 :: .int .u8 0 :: .int .u8 0 :: .int .u8 0 :: .int .u8 0 :: .int .u8 0 :: .int .u8 0 :: .int .u8 0 :: .int .u8 0 :: .int .u8 0 :: .int .u8 0 :: .int .u8 0 :: .int .u8 0 :: .int .u8 0 :: .int .u8 0 :: .int .u8 0 :: .int .u8 0 :: .int .u8 0 :: .int .u8 0 :: .int .u8 0 :: .int .u8 0 :: .int .u8 0 :: .int .u8 0 :: .int .u8 0 :: .int .u8 0 :: .int .u8 0 :: .int .u8 0 :: .int .u8 0 :: .int .u8 0 :: .int .u8 0 :: .int .u8 0 :: .int .u8 0 :: .int .u8 0 :: .int .u8 0 :: .int .u8 0 :: .int .u8 0 :: .int .u8 0 :: .int .u8 0 :: .int .u8 0 :: .int .u8 0 :: .int .u8 0 :: .int .u8 0 :: .int .u8 0 :: .int .u8 0 :: .int .u8 0 :: .int .u8 0 :: .int .u8 0 :: .int .u8 0 :: .int .u8 0 :: .int .u8 0 :: .int .u8 0 :: .int .u8 0 :: .int .u8 0 :: .int .u8 0 :: .int .u8 0 :: .int .u8 0 :: .int .u8 0 :: .int .u8 0 :: .int .u8 0 :: .int .u8 0 :: .int .u8 0 :: []) := rfl

/-- the rows ahead of the append -/
structure Fo (W0 : World) (gk ck gx cx gy cy gw cw N q : Nat) (b l lx : List Nat) (W : World) : Prop where
  rk : Row W gk ck .u8 5 N b
  rx : LRow W gx cx q lx
  ry : LRow W gy cy q l
  rw' : LRow W gw cw q l
  bel : Below W0.heap.size W0 W
  o1 : W0.heap.size ≤ gk ∧ gk < gx ∧ gx < gy ∧ gy < gw
/-- behind it -/
structure Fi (W0 : World) (gk ck gx cx gx' cx' gy cy gw cw N q : Nat) (b l lx ly : List Nat) (W : World) : Prop where
  rk : Row W gk ck .u8 5 N b
  rx : LRow W gx cx q lx
  rx' : LRow W gx' cx' (q + 1) (lx ++ ln 2 0)
  ry : LRow W gy cy q ly
  rw' : LRow W gw cw q l
  bel : Below W0.heap.size W0 W
  o1 : W0.heap.size ≤ gy ∧ gk ≠ gy ∧ gx ≠ gy ∧ gx' ≠ gy ∧ gw ≠ gy
section
variable {W0 : World} {gk ck gx cx gx' cx' gy cy gw cw N q : Nat} {b l lx ly : List Nat} {W W' : World}
theorem Fo.below (h : Fo W0 gk ck gx cx gy cy gw cw N q b l lx W) (hb : Below W.heap.size W W') : Fo W0 gk ck gx cx gy cy gw cw N q b l lx W' :=
  ⟨h.rk.below hb, h.rx.below hb, h.ry.below hb, h.rw'.below hb, h.bel.trans (hb.mono h.bel.size), h.o1⟩
theorem Fi.below (h : Fi W0 gk ck gx cx gx' cx' gy cy gw cw N q b l lx ly W) (hb : Below W.heap.size W W') : Fi W0 gk ck gx cx gx' cx' gy cy gw cw N q b l lx ly W' :=
  ⟨h.rk.below hb, h.rx.below hb, h.rx'.below hb, h.ry.below hb, h.rw'.below hb, h.bel.trans (hb.mono h.bel.size), h.o1⟩
theorem Fo.set (h : Fo W0 gk ck gx cx gy cy gw cw N q b l lx W) (k : Nat) (hk : k < q) (y : List Nat) (hy : y.length = 64) (hb : ∀ x ∈ y, x < 256) :
    Fo W0 gk ck gx cx gy cy gw cw N q b l (put lx k y) (W.setCells gx (k * 64) (vals .u8 y)) := by
  obtain ⟨q0, q1, q2, q3⟩ := h.o1
  exact ⟨h.rk.farS _ _ _ (by omega), h.rx.set k hk y hy hb, h.ry.far _ _ _ (by omega), h.rw'.far _ _ _ (by omega), below_setCells h.bel (by omega) _ _, h.o1⟩
theorem Fi.set (h : Fi W0 gk ck gx cx gx' cx' gy cy gw cw N q b l lx ly W) (k : Nat) (hk : k < q) (y : List Nat) (hy : y.length = 64) (hb : ∀ x ∈ y, x < 256) :
    Fi W0 gk ck gx cx gx' cx' gy cy gw cw N q b l lx (put ly k y) (W.setCells gy (k * 64) (vals .u8 y)) := by
  obtain ⟨q0, q1, q2, q3, q4⟩ := h.o1
  exact ⟨h.rk.farS _ _ _ q1, h.rx.far _ _ _ q2, h.rx'.far _ _ _ q3, h.ry.set k hk y hy hb, h.rw'.far _ _ _ q4, below_setCells h.bel q0 _ _, h.o1⟩
theorem Fo.append (h : Fo W0 gk ck gx cx gy cy gw cw N q b l lx W) {v' : Value} (hg : W.grownBy W' (some gx)) (ho : Onto W 33 64 (some ⟨gx, 0, none⟩) gx 0 q cx (vals .u8 lx) W' v' 1 (vals .u8 (ln 2 0)))
    (hx' : gx' = gx ∨ W.heap.size ≤ gx') (rx' : LRow W' gx' cx' (q + 1) (lx ++ ln 2 0)) : Fi W0 gk ck gx cx gx' cx' gy cy gw cw N q b l lx l W' := by
  obtain ⟨q0, q1, q2, q3⟩ := h.o1
  have e1 := h.rw'.lt
  have ne : ∀ g, g ≠ gx → some gx ≠ some g := fun g hg e => hg (Option.some.inj e).symm
  exact ⟨h.rk.grown hg (ne _ (by omega)), h.rx.kept ho, rx', h.ry.grown hg (ne _ (by omega)), h.rw'.grown hg (ne _ (by omega)), h.bel.grown hg h.bel.size (fun k e => by cases e; omega), ⟨by omega, by omega, by omega, by omega, by omega⟩⟩
end

set_option maxRecDepth 100000 in
set_option maxHeartbeats 4000000 in
theorem freshLines_some (l : List Nat) (A : Option Addr) (n c : Nat) (w : World) (hr : Rd w .u8 A n c l) (hl : ∀ x ∈ l, x < 256) (hn : n ≤ 140737488351232) (h64 : 64 ≤ n) :
    Calls Tryd.prog 40 #[.slice A n c] w fun e w' => e = .returned (.bool true) ∧ Below w.heap.size w w' := by
  obtain ⟨q, hq⟩ : ∃ q, q = n / 64 := ⟨_, rfl⟩
  have e2 : (n : Int) / 64 = (q : Int) := by omega
  obtain ⟨N, hN⟩ : ∃ N, N = 64 * q := ⟨_, rfl⟩
  have e3 : (q : Int) * 64 = (N : Int) := by omega
  have e4 : (64 : Int) * (q : Int) = (N : Int) := by omega
  have e5 : ((N : Int) != (N : Int)) = false := by simp
  have hle : N ≤ n := by omega
  have hq0 : 0 < q := by omega
  have hN0 : 0 < N := by omega
  have hcap := hr.le
  have k1 := run_sliceTo (P := Tryd.prog) (A := A) (n := n) (c := c) Tryd.underlying23 size5 N (by omega)
  have hR := hr.take N hle
  have hb : ∀ x ∈ l.take N, x < 256 := take_byte hl N
  have HN := Lib.hid hN
  have HBl := Lib.hid (show (l.take N).length = q * 64 by have := hr.1; simp; omega)
  clear hr hl hq hN
  generalize l.take N = b at *
  have HR := Lib.hid hR
  have HBy := Lib.hid hb
  clear hR hb
  go_enter Tryd.func40, Tryd.ntmps40
  go_wp2_with fail
  refine (copyBytes_any b A N c w HR.out).mono ?_
  rintro e w1 ⟨v1, rfl, ho1, hb1⟩
  obtain ⟨gk, ck, rfl, hgk, rk⟩ := Row.own ho1 hN0 (by omega)
  have HB1 := Lib.hid hb1
  clear ho1 hb1 k1
  go_wp2_with fail
  refine (lines_yes b A N c q w1 (HR.out.below HB1.out) HN.out).mono ?_
  rintro e w2 ⟨v2, rfl, ho2, hb2⟩
  obtain ⟨gx, cx, rfl, hgx, rx⟩ := LRow.own ho2 hq0 (by omega) HBy.out
  have rk2 := rk.below hb2
  have hkx : gk < gx := by have := row_lt rk; omega
  have HB2 := Lib.hid (HB1.out.trans (hb2.mono HB1.out.size))
  clear ho2 hb2 HB1 rk
  go_wp2_with fail
  refine (lines_yes b A N c q w2 (HR.out.below HB2.out) HN.out).mono ?_
  rintro e w3 ⟨v3, rfl, ho3, hb3⟩
  obtain ⟨gy, cy, rfl, hgy, ry⟩ := LRow.own ho3 hq0 (by omega) HBy.out
  have rk3 := rk2.below hb3
  have rx3 := rx.below hb3
  have hxy : gx < gy := by have := rx.lt; omega
  have HB3 := Lib.hid (HB2.out.trans (hb3.mono HB2.out.size))
  clear ho3 hb3 HB2 rk2 rx
  go_wp2_with fail
  refine (sameLines_any b _ _ q cx cy w3 rx3.ln ry.ln).mono ?_
  rintro e w4 ⟨rfl, hb4⟩
  have rk4 := rk3.below hb4
  have rx4 := rx3.below hb4
  have ry4 := ry.below hb4
  have HB4 := Lib.hid (HB3.out.trans (hb4.mono HB3.out.size))
  have hs4 := hb4.size
  have HX := Lib.hid rx4
  have HK := Lib.hid rk4
  have HY := Lib.hid ry4
  obtain ⟨i0, hi, hz0, hz1, hz2⟩ := info_parts info33
  have Hz0 := Lib.hid hz0
  have hlt4 := ry4.lt
  have HNW := Lib.hid (show ∀ j u, (vals .u8 b)[j]? = some u → w4.cell? ((⟨gx, 0, none⟩ : Addr).add j) = some u from fun j u h => by
    rw [Go.WideShapes.add_plain]; exact rx4.range j u h)
  clear hb4 HB3 rk3 rx3 ry rk4 rx4 ry4 hz0
  go_wp2_with (at_builtin; refine wpList_append_own _ rfl _ _ 51 rfl w4.heap.size 33 i0 (.agg (u8s (List.replicate 64 0))) 64 64 Tryd.underlying51 hi Hz0.out hz1 hz2 (by rw [Value.cells, u8s_size]; simp) (by decide) _ 0 [] rfl (World.ownsRow_nil _ _ _ _) ⟨gx, 0, none⟩ q cx (vals .u8 b) rfl (by rw [vals_len]; exact HX.out.len) HNW.out (vals_one _ _) (by simp only [maxLen]; omega) (by omega) (by omega) ?_; intro v5 w5 hown5 hg5 _)
  rw [Nat.zero_add, List.nil_append] at hown5
  obtain ⟨gw, cw, rfl, hgw, rw5⟩ := LRow.own hown5 hq0 (by omega) HBy.out
  have hb5 : Below w4.heap.size w4 w5 := (Below.refl _ _).grown hg5 (Nat.le_refl _) (fun b hb => by cases hb)
  have hwk : w.heap.size ≤ gk := hgk
  have HS0 : Hid (Fo w gk ck gx cx gy cy gw cw N q b b (writ 1 b 0) w5) := ⟨HK.out.below hb5, HX.out.below hb5, HY.out.below hb5, rw5, HB4.out.trans (hb5.mono HB4.out.size), ⟨hwk, hkx, hxy, by omega⟩⟩
  clear hown5 hg5 hb5 rw5 HX HK HY HB4 HNW
  go_wp2_with fail
  go_loopw [10] (fun v wr' => ∃ k : Nat, k ≤ q ∧ v = .int .i64 k ∧ Hid (Fo w gk ck gx cx gy cy gw cw N q b b (writ 1 b k) wr')) (fun v _ => q - (intOf v).toNat)
  case atStart => exact ⟨0, by omega, rfl, HS0⟩
  case round =>
    clear HS0
    obtain ⟨k, hk, rfl, HS⟩ := hrel
    by_cases hlt : k < q
    · have HT := Lib.hid (HS.out.set k hlt (ln 1 (k % 256)) (ln_len _ _) (ln_byte _ _ (by omega) (by omega)))
      rw [line_vals 1 1 k rfl] at HT
      have HTh := Lib.hid (HS.out.rx.there k hlt)
      clear HS
      go_wp2_with (refine wpList_store_mid rfl 33 (.tmp 67) (.tmp 66) rfl gx (k * 64) _ rfl rfl ?ht ?hi ?h1 ?_)
      case ht => exact HTh.out
      case h1 => simp [Value.oneCell']
      case hi => exact size33
      go_roundw
      case rel => exact ⟨k + 1, by omega, by go_num, HT⟩
      case measure => simp [intOf]; omega
    · obtain rfl : q = k := by omega
      generalize hlx : writ 1 b q = lx at *
      have Hlx := Lib.hid hlx
      have hb0 : Below wr.heap.size wr (wr.alloc (.cells (u8s (ln 2 0)) 33)) := (Below.refl _ _).alloc (Nat.le_refl _) _
      have HSa := Lib.hid (HS.out.below hb0)
      have HNW := Lib.hid (show ∀ j u, (vals .u8 (ln 2 0))[j]? = some u → (wr.alloc (.cells (u8s (ln 2 0)) 33)).cell? ((⟨wr.heap.size, 0, none⟩ : Addr).add j) = some u from World.news_of_block (cs := u8s (ln 2 0)) (heap_alloc_new wr _))
      rw [line2] at HSa HNW
      have HGX := HS.out.rx.lt
      clear hlt hk hlx hb0
      go_wp2_with (at_builtin; go_loud (refine wpList_append_both rfl _ _ 51 rfl gx 33 i0 (.agg (u8s (List.replicate 64 0))) 64 64 Tryd.underlying51 hi Hz0.out hz1 hz2 (by rw [Value.cells, u8s_size]; simp) (by decide) HSa.out.rx.came rfl (HSa.out.rx.toOwn gx (Nat.le_refl _)) ⟨wr.heap.size, 0, none⟩ 1 (vals .u8 (ln 2 0)) rfl rfl HNW.out (vals_one _ _) (by simp only [maxLen]; omega) (by omega) (Nat.le_trans (Nat.le_of_lt HGX) (by simp)) ?_); intro v' w12 hown hgr hon)
      obtain ⟨gx', cx', rfl, hgx', rx'⟩ := LRow.appended hown hon (by omega) (by
        intro x hx
        rcases List.mem_append.1 hx with h | h
        · exact HSa.out.rx.byte x h
        · exact ln_byte _ _ (by omega) (by omega) x h)
      have HM := Lib.hid (HSa.out.append hgr hon hgx' rx')
      clear hown hgr hon hgx' rx' HSa HS HNW
      go_wp2_with fail
      refine (lines_yes b A N c q w12 (HR.out.below HM.out.bel) HN.out).mono ?_
      rintro e w13 ⟨v13, rfl, ho13, hb13⟩
      obtain ⟨gz, cz, rfl, hgz, rz⟩ := LRow.own ho13 hq0 (by omega) HBy.out
      have HM13 := Lib.hid (HM.out.below hb13)
      have hzy : gz ≠ gy := by have := HM.out.ry.lt; omega
      have HZ := Lib.hid rz
      clear ho13 hb13 HM rz
      go_wp2_with fail
      refine (sameLines_any b _ _ q cy cw w13 HM13.out.ry.ln HM13.out.rw'.ln).mono ?_
      rintro e w14 ⟨rfl, hb14⟩
      have HM14 := Lib.hid (HM13.out.below hb14)
      have HZ14 := Lib.hid (HZ.out.below hb14)
      clear hb14 HM13 HZ
      go_wp2_with fail
      refine (sameLines_any b _ _ q cz cw w14 HZ14.out.ln HM14.out.rw'.ln).mono ?_
      rintro e w15 ⟨rfl, hb15⟩
      have HM15 := Lib.hid (HM14.out.below hb15)
      have HZ15 := Lib.hid (HZ14.out.below hb15)
      clear hb15 HM14 HZ14
      go_wp2_with fail
      refine (sameBytes_any b _ _ N c ck w15 (HR.out.below HM15.out.bel) HM15.out.rk.rd).mono ?_
      rintro e w16 ⟨rfl, m16, rfl⟩
      have HM16 : Hid (Fi w gk ck gx cx gx' cx' gy cy gw cw N q b b lx (writ 3 b 0) (w15.drewN m16)) := HM15.out.below (below_drewN (Below.refl _ _) m16)
      have HZ16 := Lib.hid (HZ15.out.below (below_drewN (Below.refl _ _) m16))
      clear HM15 HZ15
      generalize w15.drewN m16 = w16 at *
      go_wp2_with fail
      go_loopw [14] (fun v wr => ∃ k : Nat, k ≤ q ∧ v = .int .i64 k ∧ Hid (Fi w gk ck gx cx gx' cx' gy cy gw cw N q b b lx (writ 3 b k) wr) ∧ Hid (LRow wr gz cz q b)) (fun v _ => q - (intOf v).toNat)
      case atStart => exact ⟨0, by omega, rfl, HM16, HZ16⟩
      case round =>
        clear HM16 HZ16
        obtain ⟨k, hk, rfl, HS, HZ⟩ := hrel
        by_cases hlt : k < q
        · have HT := Lib.hid (HS.out.set k hlt (ln 3 (k % 256)) (ln_len _ _) (ln_byte _ _ (by omega) (by omega)))
          have HZ2 := Lib.hid (HZ.out.far gy (k * 64) (vals .u8 (ln 3 (k % 256))) hzy)
          rw [line_vals 3 3 k rfl] at HT HZ2
          have HTh := Lib.hid (HS.out.ry.there k hlt)
          clear HS HZ
          go_wp2_with (refine wpList_store_mid rfl 33 (.tmp 109) (.tmp 108) rfl gy (k * 64) _ rfl rfl ?ht ?hi ?h1 ?_)
          case ht => exact HTh.out
          case h1 => simp [Value.oneCell']
          case hi => exact size33
          go_roundw
          case rel => exact ⟨k + 1, by omega, by go_num, HT, HZ2⟩
          case measure => simp [intOf]; omega
        · obtain rfl : q = k := by omega
          generalize writ 3 b q = ly at *
          clear hlt hk
          go_wp2_with fail
          go_loopw [15] (fun v wr => ∃ k : Nat, k ≤ q ∧ v = .int .i64 k ∧ Hid (Fi w gk ck gx cx gx' cx' gy cy gw cw N q b b lx ly wr ∧ LRow wr gz cz q b)) (fun v _ => q - (intOf v).toNat)
          case atStart => exact ⟨0, by omega, rfl, HS.out, HZ.out⟩
          case round =>
            clear HS HZ
            obtain ⟨k, hk, rfl, HS⟩ := hrel
            by_cases hlt : k < q
            · have hsx : seg lx k = ln 1 (k % 256) := by rw [← Hlx.out]; exact writ_seg 1 HBl.out q (Nat.le_refl _) k hlt
              have hsx' : seg (lx ++ ln 2 0) k = ln 1 (k % 256) := by rw [seg_append (by rw [← Hlx.out]; exact writ_len 1 HBl.out q (Nat.le_refl _)) hlt]; exact hsx
              have hrx : ∀ W : World, (Fi w gk ck gx cx gx' cx' gy cy gw cw N q b b lx ly W ∧ LRow W gz cz q b) → W.rangeAt gx (k * 64) (vals .u8 (ln 1 (k % 256))) := fun W h => by
                have := h.1.rx.at_ k hlt; rwa [hsx] at this
              have hrx' : ∀ W : World, (Fi w gk ck gx cx gx' cx' gy cy gw cw N q b b lx ly W ∧ LRow W gz cz q b) → W.rangeAt gx' (k * 64) (vals .u8 (ln 1 (k % 256))) := fun W h => by
                have := h.1.rx'.at_ k (by omega); rwa [hsx'] at this
              have hu := Tryd.underlying33
              have hiz : (Tryd.prog.info? 33).map (·.size) = some (vals .u8 (ln 1 (k % 256))).length := by rw [vals_len, ln_len]; exact size33
              have NEQ : Hid (∀ (o : Oper) (x y : Operand) (_ : o.op = .binOp .neq 33 x y 33) (a : Act) (_ : a.eval x = .agg (u8s (ln 1 (k % 256)))) (_ : a.eval y = .agg (u8s (ln 1 (k % 256)))), ∀ W : World, (execOp a.eval o).run Tryd.prog W = .ok (.value (.bool false)) W) := fun o x y ho a hx hy W => by
                have := neq_u8s o x y ho a _ _ hx hy (ln_len _ _) (ln_len _ _) (ln_byte _ _ (by omega) (by omega)) (ln_byte _ _ (by omega) (by omega)) W
                simpa using this
              have hd : Fi w gk ck gx cx gx' cx' gy cy gw cw N q b b lx ly wr.drew ∧ LRow wr.drew gz cz q b := ⟨HS.out.1.below (Below.refl _ _).drew, HS.out.2.below (Below.refl _ _).drew⟩
              have HLA : Hid (u8s (ln 1 (k % 256)) = List.toArray _) := congrArg List.toArray (line_vals 1 1 k rfl)
              have Hrx := Lib.hid hrx
              have Hrx' := Lib.hid hrx'
              have Hd := Lib.hid hd
              clear hsx hsx' HS hrx hrx' hd
              go_wp2_with fail
              refine wp_region_held_drew (S := fun W => Fi w gk ck gx cx gx' cx' gy cy gw cw N q b b lx ly W ∧ LRow W gz cz q b) (by kernel_rfl) Hd.out (fun hS => ?_)
              refine takeD (i := 0) (v := .slice (some ⟨gx', 0, none⟩) (q + 1) cx') 116 rfl rfl (by kernel_rfl) (by kernel_rfl) (by kernel_rfl) (fun _ _ _ h => h) (Or.inl ⟨by rfl, fun W _ => by go_simp⟩) hS ?_
              simp only [Act.put, List.setIfInBounds_toArray, List.set_cons_zero, List.set_cons_succ]
              refine takeD (i := 1) (v := .int .i64 k) 117 rfl rfl (by kernel_rfl) (by kernel_rfl) (by kernel_rfl) (fun _ _ _ h => h) (Or.inl ⟨by rfl, fun W _ => by go_simp⟩) hS ?_
              simp only [Act.put, List.setIfInBounds_toArray, List.set_cons_zero, List.set_cons_succ]
              refine takeD (i := 2) (v := .pointer (some ⟨gx', k * 64, none⟩)) 118 rfl rfl (by kernel_rfl) (by kernel_rfl) (by kernel_rfl) (fun _ _ _ h => h) (Or.inl ⟨by rfl, fun W _ => by go_simp; intro h; omega⟩) hS ?_
              simp only [Act.put, List.setIfInBounds_toArray, List.set_cons_zero, List.set_cons_succ]
              refine takeD (i := 3) 119 rfl rfl (by kernel_rfl) (by kernel_rfl) (by kernel_rfl) (fun _ _ _ h => h) (yieldsIf_load_mid (by rfl) 33 (.tmp 118) rfl gx' (k * 64) rfl (vals .u8 (ln 1 (k % 256))) _ (fun W h => Hrx'.out W h) hu rfl hiz) hS ?_
              simp only [Act.put, List.setIfInBounds_toArray, List.set_cons_zero, List.set_cons_succ]
              refine takeD (i := 4) (v := .int .i64 k) 120 rfl rfl (by kernel_rfl) (by kernel_rfl) (by kernel_rfl) (fun _ _ _ h => h) (Or.inl ⟨by rfl, fun W _ => by go_simp⟩) hS ?_
              simp only [Act.put, List.setIfInBounds_toArray, List.set_cons_zero, List.set_cons_succ]
              refine takeD (i := 5) (v := .int .u8 ((k : Int) % 256)) 121 rfl rfl (by kernel_rfl) (by kernel_rfl) (by kernel_rfl) (fun _ _ _ h => h) (Or.inl ⟨by rfl, fun W _ => by go_simp; first | rfl | (unfold IntKind.wrap; simp) | simp [IntKind.wrap]⟩) hS ?_
              simp only [Act.put, List.setIfInBounds_toArray, List.set_cons_zero, List.set_cons_succ]
              refine takeD (i := 6) (v := .agg (u8s (ln 1 (k % 256)))) 122 rfl rfl (by kernel_rfl) (by kernel_rfl) (by kernel_rfl) (fun _ _ _ h => h) (Or.inl ⟨by rfl, fun W _ => by go_simp; exact HLA.out⟩) hS ?_
              simp only [Act.put, List.setIfInBounds_toArray, List.set_cons_zero, List.set_cons_succ]
              refine takeD (i := 7) (v := .bool false) 123 rfl rfl (by kernel_rfl) (by kernel_rfl) (by kernel_rfl) (fun _ _ _ h => h) (Or.inl ⟨by rfl, fun W _ => by exact NEQ.out _ (.tmp 119) (.tmp 122) rfl _ rfl rfl W⟩) hS ?_
              simp only [Act.put, List.setIfInBounds_toArray, List.set_cons_zero, List.set_cons_succ]
              refine takeD (i := 8) (v := .bool false) 124 rfl rfl (by kernel_rfl) (by kernel_rfl) (by kernel_rfl) (fun _ _ _ h => h) (Or.inl ⟨by rfl, fun W _ => by go_simp⟩) hS ?_
              simp only [Act.put, List.setIfInBounds_toArray, List.set_cons_zero, List.set_cons_succ]
              refine takeD (i := 9) (v := .slice (some ⟨gx, 0, none⟩) q cx) 125 rfl rfl (by kernel_rfl) (by kernel_rfl) (by kernel_rfl) (fun _ _ _ h => h) (Or.inl ⟨by rfl, fun W _ => by go_simp⟩) hS ?_
              simp only [Act.put, List.setIfInBounds_toArray, List.set_cons_zero, List.set_cons_succ]
              refine takeD (i := 10) (v := .int .i64 k) 126 rfl rfl (by kernel_rfl) (by kernel_rfl) (by kernel_rfl) (fun _ _ _ h => h) (Or.inl ⟨by rfl, fun W _ => by go_simp⟩) hS ?_
              simp only [Act.put, List.setIfInBounds_toArray, List.set_cons_zero, List.set_cons_succ]
              refine takeD (i := 11) (v := .pointer (some ⟨gx, k * 64, none⟩)) 127 rfl rfl (by kernel_rfl) (by kernel_rfl) (by kernel_rfl) (fun _ _ _ h => h) (Or.inl ⟨by rfl, fun W _ => by go_simp⟩) hS ?_
              simp only [Act.put, List.setIfInBounds_toArray, List.set_cons_zero, List.set_cons_succ]
              refine takeD (i := 12) 128 rfl rfl (by kernel_rfl) (by kernel_rfl) (by kernel_rfl) (fun _ _ _ h => h) (yieldsIf_load_mid (by rfl) 33 (.tmp 127) rfl gx (k * 64) rfl (vals .u8 (ln 1 (k % 256))) _ (fun W h => Hrx.out W h) hu rfl hiz) hS ?_
              simp only [Act.put, List.setIfInBounds_toArray, List.set_cons_zero, List.set_cons_succ]
              refine takeD (i := 13) (v := .slice (some ⟨gx', 0, none⟩) (q + 1) cx') 129 rfl rfl (by kernel_rfl) (by kernel_rfl) (by kernel_rfl) (fun _ _ _ h => h) (Or.inl ⟨by rfl, fun W _ => by go_simp⟩) hS ?_
              simp only [Act.put, List.setIfInBounds_toArray, List.set_cons_zero, List.set_cons_succ]
              refine takeD (i := 14) (v := .int .i64 k) 130 rfl rfl (by kernel_rfl) (by kernel_rfl) (by kernel_rfl) (fun _ _ _ h => h) (Or.inl ⟨by rfl, fun W _ => by go_simp⟩) hS ?_
              simp only [Act.put, List.setIfInBounds_toArray, List.set_cons_zero, List.set_cons_succ]
              refine takeD (i := 15) (v := .pointer (some ⟨gx', k * 64, none⟩)) 131 rfl rfl (by kernel_rfl) (by kernel_rfl) (by kernel_rfl) (fun _ _ _ h => h) (Or.inl ⟨by rfl, fun W _ => by go_simp; intro h; omega⟩) hS ?_
              simp only [Act.put, List.setIfInBounds_toArray, List.set_cons_zero, List.set_cons_succ]
              refine takeD (i := 16) 132 rfl rfl (by kernel_rfl) (by kernel_rfl) (by kernel_rfl) (fun _ _ _ h => h) (yieldsIf_load_mid (by rfl) 33 (.tmp 131) rfl gx' (k * 64) rfl (vals .u8 (ln 1 (k % 256))) _ (fun W h => Hrx'.out W h) hu rfl hiz) hS ?_
              simp only [Act.put, List.setIfInBounds_toArray, List.set_cons_zero, List.set_cons_succ]
              refine takeD (i := 17) (v := .bool false) 133 rfl rfl (by kernel_rfl) (by kernel_rfl) (by kernel_rfl) (fun _ _ _ h => h) (Or.inl ⟨by rfl, fun W _ => by exact NEQ.out _ (.tmp 128) (.tmp 132) rfl _ rfl rfl W⟩) hS ?_
              simp only [Act.put, List.setIfInBounds_toArray, List.set_cons_zero, List.set_cons_succ]
              refine takeD (i := 18) (v := .bool false) 134 rfl rfl (by kernel_rfl) (by kernel_rfl) (by kernel_rfl) (fun _ _ _ h => h) (Or.inl ⟨by rfl, fun W _ => by go_simp⟩) hS ?_
              simp only [Act.put, List.setIfInBounds_toArray, List.set_cons_zero, List.set_cons_succ]
              refine wpAnyH_done (by kernel_rfl) ?_ _
              have HE := Lib.hid hS
              clear hS NEQ
              go_wp2_with fail
              go_roundw
              case rel => exact ⟨k + 1, by omega, by go_num, HE⟩
              case measure => simp [intOf]; omega
            · obtain rfl : q = k := by omega
              clear hlt hk
              go_wp2_with fail
              refine (sameLines_any b _ _ q cz cw wr HS.out.2.ln HS.out.1.rw'.ln).mono ?_
              rintro e w20 ⟨rfl, hb20⟩
              have HM20 := Lib.hid (HS.out.1.below hb20)
              clear hb20 HS
              go_wp2_with fail
              refine (sameBytes_any b _ _ N c ck w20 (HR.out.below HM20.out.bel) HM20.out.rk.rd).mono ?_
              rintro e w21 ⟨rfl, m21, rfl⟩
              go_wp2_with fail
              go_ret
              exact ⟨rfl, below_drewN HM20.out.bel _⟩

end Go.Proofs.YtelhmddigogmgaaDoor
