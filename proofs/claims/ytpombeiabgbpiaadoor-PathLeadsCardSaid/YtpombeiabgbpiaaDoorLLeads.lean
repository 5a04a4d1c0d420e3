/-
PathLeads: every Look, Resolve and Parent over a table of edges answers what the document answers; what becomes of the edges later isn't seen.
-/
import Derived.Test.YtpombeiabgbpiaaDoorLAll
import Derived.Test.YtpombeiabgbpiaaDoorWSameE
namespace Go.Proofs.YtpombeiabgbpiaaDoor
open Go.RowKit

theorem TabT.chg {W W' : World} {t gB : Nat} {l : List EdgeV} {cur : Array Value} {fr : Nat × Nat} (h : TabT W t l) (hc : Chg (fun b => b = gB) W W') (hg : W.heap[gB]? = some (.cells cur 44 fr)) : TabT W' t l := by
  obtain ⟨mb, n, h1, h2⟩ := h
  have e1 : t ≠ gB := fun e => by
    rw [e, hg] at h1
    injection h1 with h1
    injection h1 with _ h1
    exact absurd h1 (by decide)
  have e2 : mb ≠ gB := fun e => by
    obtain ⟨D, ⟨es, clock, k1, _⟩, _⟩ := h2
    rw [e, hg] at k1
    injection k1 with k1
    cases k1
  exact ⟨mb, n, hc.heap h1 (fun e => e1 e), h2.kept (hc.block mb h2.lt (fun e => e2 e))⟩
/-- a table, the edges kept, and the row that is written over -/
structure LdS (t : Nat) (vk vg : Value) (n lo : Nat) (es : List EdgeV) (w W : World) : Prop where
  t1 : TabT W t es
  ed : RdE W vk es
  bel : Below w.heap.size w W
  low : ∀ b off n c, vk = .slice (some ⟨b, off, none⟩) n c → b < lo
  row : 0 < n → ∃ gB cg cur, vg = .slice (some ⟨gB, 0, none⟩) n cg ∧ n ≤ cg ∧ cg ≤ maxLen ∧ lo ≤ gB ∧ w.heap.size ≤ gB ∧ W.heap[gB]? = some (.cells cur 44 (0, 0)) ∧ n * 4 ≤ cur.size
theorem LdS.below {t : Nat} {vk vg : Value} {n lo : Nat} {es : List EdgeV} {w W W' : World} (h : LdS t vk vg n lo es w W) (hb : Below W.heap.size W W') : LdS t vk vg n lo es w W' :=
  ⟨h.t1.below hb, h.ed.below hb, below_lift h.bel hb, h.low, fun h0 => by
    obtain ⟨gB, cg, cur, a, b, c, d, e, f, g⟩ := h.row h0
    exact ⟨gB, cg, cur, a, b, c, d, e, (hb.block _ (heap_lt f)).trans f, g⟩⟩
theorem LdS.set {t : Nat} {vk : Value} {n lo gB cg j : Nat} {es : List EdgeV} {w W : World} (h : LdS t vk (.slice (some ⟨gB, 0, none⟩) n cg) n lo es w W) (h0 : 0 < n) (v : Value) : LdS t vk (.slice (some ⟨gB, 0, none⟩) n cg) n lo es w (W.setCell ⟨gB, j, none⟩ v) := by
  obtain ⟨gB', cg', cur, a, b, c, d, e, f, g⟩ := h.row h0
  injection a with a1 _ a3
  injection a1 with a1
  injection a1 with a1
  subst a1 a3
  have hc : Chg (fun b => b = gB) W (W.setCell ⟨gB, j, none⟩ v) := (Chg.refl (fun b => b = gB) W).setCell (p := ⟨gB, j, none⟩) (fun _ => rfl) _
  refine ⟨h.t1.chg hc f, h.ed.chg hc (fun b off n c e k => by have := h.low b off n c e; omega), h.bel.setCell (p := ⟨gB, j, none⟩) e _, h.low, fun _ => ⟨gB, cg, cur.setIfInBounds j v, rfl, b, c, d, e, heap_setCell_same _ _ j _ _ v f, by simpa using g⟩⟩
theorem LdS.at {t : Nat} {vk vg : Value} {n lo : Nat} {es : List EdgeV} {w W : World} (h : LdS t vk vg n lo es w W) {i : Nat} (hi : i < n) : ∃ gB cg x0 x1 x2 x3, vg = .slice (some ⟨gB, 0, none⟩) n cg ∧ n ≤ cg ∧ cg ≤ 9223372036854775807 ∧ gB < W.heap.size ∧
    W.cell? ⟨gB, i * 4, none⟩ = some x0 ∧ W.cell? ⟨gB, i * 4 + 1, none⟩ = some x1 ∧ W.cell? ⟨gB, i * 4 + 2, none⟩ = some x2 ∧ W.cell? ⟨gB, i * 4 + 3, none⟩ = some x3 ∧
    W.frozen? ⟨gB, i * 4, none⟩ = false ∧ W.frozen? ⟨gB, i * 4 + 1, none⟩ = false ∧ W.frozen? ⟨gB, i * 4 + 2, none⟩ = false ∧ W.frozen? ⟨gB, i * 4 + 3, none⟩ = false := by
  obtain ⟨gB, cg, cur, a, b, c, d, e, f, g⟩ := h.row (by omega)
  have k : ∀ j, j < n * 4 → ∃ x, W.cell? ⟨gB, j, none⟩ = some x := fun j hj => ⟨cur[j]'(by omega), by rw [cell_of_row _ _ _ _ _ _ f]; exact Array.getElem?_eq_getElem (by omega)⟩
  obtain ⟨x0, h0⟩ := k (i * 4) (by omega)
  obtain ⟨x1, h1⟩ := k (i * 4 + 1) (by omega)
  obtain ⟨x2, h2⟩ := k (i * 4 + 2) (by omega)
  obtain ⟨x3, h3⟩ := k (i * 4 + 3) (by omega)
  exact ⟨gB, cg, x0, x1, x2, x3, a, b, maxLen_eq ▸ c, heap_lt f, h0, h1, h2, h3, frozen_of_row _ _ _ _ _ f, frozen_of_row _ _ _ _ _ f, frozen_of_row _ _ _ _ _ f, frozen_of_row _ _ _ _ _ f⟩

set_option maxRecDepth 100000 in
set_option maxHeartbeats 4000000 in
theorem PathLeads.walk (W : World) (v : Value) (ho : EdgesV W v) (p : Value) (hp : OpsV W p) : Calls Tryd.prog 11 #[v, p] W fun e W' => e = .returned (.bool true) ∧ Below W.heap.size W W' := by
  obtain ⟨es, hE, hel, hez⟩ := ho
  obtain ⟨Ae, ce, rfl, hE0⟩ := hE
  have hE : RdE W (.slice Ae es.length ce) es := ⟨Ae, ce, rfl, hE0⟩
  have hok : ∀ e ∈ es, e.Ok := hE0.2.2.1
  obtain ⟨A, c, l, rfl, h1, h2, h4, h5⟩ := hp
  have hcm : c ≤ 9223372036854775807 := maxLen_eq ▸ h2
  have HOK := Lib.hid h4
  have HR := Lib.hid h5
  obtain ⟨n, hn⟩ : ∃ n, l.length = n := ⟨_, rfl⟩
  have HL := Lib.hid hn
  obtain ⟨ne, hne⟩ : ∃ ne, es.length = ne := ⟨_, rfl⟩
  have HNE := Lib.hid hne
  have HE := Lib.hid hE
  have HEZ := Lib.hid hez
  have HEO := Lib.hid hok
  rw [hne] at HE HEZ hel ⊢
  rw [hn] at h1 ⊢
  clear h2 h4 h5 hn hne hE hE0 hez hok
  go_enter Tryd.func11, Tryd.ntmps11
  go_wp2_with fail
  refine (first_any W).mono ?_
  rintro e w1 ⟨rfl, hb1⟩
  have HB1 := Lib.hid hb1
  clear hb1
  go_wp2_with fail
  refine (copyEdges_any w1 Ae ne ce es (HE.out.below HB1.out) HEZ.out (by omega)).mono ?_
  rintro e w2 ⟨vk, rfl, hok2, hb2⟩
  have HK2 : Hid (RdE w2 vk es) := Lib.hid (RdE.of_own (by rw [HNE.out]; exact hok2) HEO.out)
  have HLO : Hid (∀ b off n c, vk = .slice (some ⟨b, off, none⟩) n c → b < w2.heap.size) := Lib.hid (fun b off n c e => (hok2.lt b (by rw [e]; rfl)).2)
  have HB2 := Lib.hid (below_lift HB1.out hb2)
  obtain ⟨Ak, ck, rfl⟩ := own_form hok2
  clear hok2 hb2 HB1
  go_wp2_with fail
  refine (copyEdges_any w2 Ae ne ce es (HE.out.below HB2.out) HEZ.out (by omega)).mono ?_
  rintro e w3 ⟨vg, rfl, hok3, hb3⟩
  have HG3 : Hid (RdE w3 vg es) := Lib.hid (RdE.of_own (by rw [HNE.out]; exact hok3) HEO.out)
  have HK3 := Lib.hid (HK2.out.below hb3)
  have HB3 := Lib.hid (below_lift HB2.out hb3)
  have hsz := HB2.out.size
  obtain ⟨Ag, cg, rfl⟩ := own_form hok3
  have HRW : Hid (∀ X, Below w3.heap.size w3 X → 0 < ne → ∃ gB cg' cur, (.slice Ag ne cg : Value) = .slice (some ⟨gB, 0, none⟩) ne cg' ∧ ne ≤ cg' ∧ cg' ≤ maxLen ∧ w2.heap.size ≤ gB ∧ W.heap.size ≤ gB ∧ X.heap[gB]? = some (.cells cur 44 (0, 0)) ∧ ne * 4 ≤ cur.size) := Lib.hid (fun X hX h0 => by
    rcases hok3.2 with ⟨_, e⟩ | ⟨g, cap, cur, hv, hb, hg, k1, k2, k3, _⟩
    · omega
    · exact ⟨g, cap, cur, hv, k1, k2, hb, by omega, (hX.block _ (heap_lt hg)).trans hg, by rw [k3]; omega⟩)
  clear hok3 hb3 HK2 HB2
  go_wp2_with fail
  refine (newTable_any w3 _ es HG3.out).mono ?_
  rintro e w4 ⟨t, rfl, ht, _, hb4⟩
  have HS4 := Lib.hid (show LdS t (.slice Ak ne ck) (.slice Ag ne cg) ne w2.heap.size es W w4 from ⟨ht, HK3.out.below hb4, below_lift HB3.out hb4, HLO.out, HRW.out w4 hb4⟩)
  have HG4 := Lib.hid (HG3.out.below hb4)
  clear ht hb4 HK3 HB3 HLO HRW HG3 hsz
  go_wp2_with fail
  refine (sameEdges_any w4 _ _ es HG4.out HS4.out.ed).mono ?_
  rintro e w5 ⟨rfl, hb5⟩
  have HS5 := Lib.hid (HS4.out.below hb5)
  clear hb5 HS4 HG4
  go_wp2_with fail
  go_loopw [8] (fun v8 wr => ∃ i : Nat, i ≤ ne ∧ v8 = .int .i64 i ∧ Hid (LdS t (.slice Ak ne ck) (.slice Ag ne cg) ne w2.heap.size es W wr)) (fun v8 _ => ne - (intOf v8).toNat)
  case atStart => exact ⟨0, by omega, rfl, HS5⟩
  case round =>
    clear HS5
    obtain ⟨i, hi, rfl, HX⟩ := hrel
    by_cases hil : i < ne
    · obtain ⟨gB, cg', x0, x1, x2, x3, hv, k1, k2, k3, c0, c1, c2, c3, f0, f1, f2, f3⟩ := HX.out.at hil
      injection hv with j1 j2 j3
      subst j1 j3
      have HX2 := Lib.hid ((((HX.out.set (j := i * 4) (by omega) (.int .i64 1)).set (j := i * 4 + 1) (by omega) (.string ⟨#[108, 97, 116, 101]⟩)).set (j := i * 4 + 2) (by omega) (.int .i64 9)).set (j := i * 4 + 3) (by omega) (.bool true))
      clear HX j2
      go_wp2_with fail
      go_roundw
      case rel => exact ⟨i + 1, by omega, by go_num, HX2⟩
      case measure => simp [intOf]; omega
    · obtain rfl : i = ne := by omega
      go_wp2_with fail
      go_loopw [9] (fun v9 wi => ∃ i2 : Nat, i2 ≤ n ∧ v9 = .int .i64 i2 ∧ Hid (LdS t (.slice Ak i ck) (.slice Ag i cg) i w2.heap.size es W wi)) (fun v9 _ => n - (intOf v9).toNat)
      case atStart => exact ⟨0, by omega, rfl, HX⟩
      case round =>
        clear HX
        obtain ⟨i2, hi2, rfl, HX⟩ := hrel
        by_cases hil2 : i2 < n
        · obtain ⟨b, off, rfl, hbw, hh⟩ := HR.out (by rw [HL.out]; omega)
          obtain ⟨⟨k, tx, up, pl, sl, nn⟩, hs⟩ : ∃ x, l[i2]? = some x := ⟨_, List.getElem?_eq_getElem (by rw [HL.out]; exact hil2)⟩
          obtain ⟨c0, c1, c2, c3, c4⟩ := ops_at' (hh i2 _ hs) hbw HX.out.bel
          obtain ⟨_, hts, hps, hpz, hnw⟩ := HOK.out _ (List.mem_of_getElem? hs)
          obtain ⟨Ap, cp, hu, _⟩ := hps.1
          simp only at c0 c1 c2 c3 c4 hps hpz hu hts hnw
          subst hu
          have hbr : b < wr.heap.size := Nat.lt_of_lt_of_le hbw HX.out.bel.size
          have HTX := Lib.hid (plays_any wr t _ es k nn tx Ap _ cp pl sl HX.out.t1 HX.out.ed ⟨hps.1.below HX.out.bel, hps.2⟩ hpz hnw hts)
          clear hh hs hps hpz hnw hts
          by_cases hk1 : 4 ≤ k
          · by_cases hk2 : k ≤ 7
            · go_wp2_with fail
              refine HTX.out.mono ?_
              rintro e w6 ⟨rfl, hb6⟩
              have HX6 := Lib.hid (HX.out.below hb6)
              clear hb6 HTX
              go_wp2_with fail
              go_roundw
              case rel => exact ⟨i2 + 1, by omega, by go_num, HX6⟩
              case measure => simp [intOf]; omega
            · go_wp2_with fail
              go_roundw
              case rel => exact ⟨i2 + 1, by omega, by go_num, HX⟩
              case measure => simp [intOf]; omega
          · go_wp2_with fail
            go_roundw
            case rel => exact ⟨i2 + 1, by omega, by go_num, HX⟩
            case measure => simp [intOf]; omega
        · obtain rfl : i2 = n := by omega
          go_wp2_with fail
          go_ret
          exact ⟨rfl, HX.out.bel⟩

end Go.Proofs.YtpombeiabgbpiaaDoor
