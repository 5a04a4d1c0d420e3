/-
PathAll: every call, in every order: over a table of edges and over none, the answers are the document's.
-/
import Derived.Test.YtpombeiabgbpiaaDoorWPlays
namespace Go.Proofs.YtpombeiabgbpiaaDoor
open Go.RowKit

/-- the i-th call of a script -/
theorem ops_at' {W W' : World} {b off i : Nat} {a : OpR} (h : W.rangeAt b (off + i * 5) (opC a)) (hb : b < W.heap.size) (hk : Below W.heap.size W W') :
    W'.cell? ⟨b, off + i * 5, none⟩ = some (.int .i64 a.1) ∧ W'.cell? ⟨b, off + i * 5 + 1, none⟩ = some (.string a.2.1) ∧ W'.cell? ⟨b, off + i * 5 + 2, none⟩ = some a.2.2.1 ∧ W'.cell? ⟨b, off + i * 5 + 3, none⟩ = some (.bool a.2.2.2.2.1) ∧ W'.cell? ⟨b, off + i * 5 + 4, none⟩ = some (.int .i64 a.2.2.2.2.2) :=
  ⟨(hk.cell hb).trans (h 0 _ rfl), (hk.cell hb).trans (h 1 _ rfl), (hk.cell hb).trans (h 2 _ rfl), (hk.cell hb).trans (h 3 _ rfl), (hk.cell hb).trans (h 4 _ rfl)⟩
/-- two tables, and the edges kept -/
structure AllS (t u : Nat) (vk : Value) (es : List EdgeV) (w W : World) : Prop where
  t1 : TabT W t es
  t2 : TabT W u []
  ed : RdE W vk es
  bel : Below w.heap.size w W
theorem AllS.below {t u : Nat} {vk : Value} {es : List EdgeV} {w W W' : World} (h : AllS t u vk es w W) (hb : Below W.heap.size W W') : AllS t u vk es w W' := ⟨h.t1.below hb, h.t2.below hb, h.ed.below hb, below_lift h.bel hb⟩
theorem rde_nil (w : World) : RdE w (.slice none 0 0) [] := ⟨none, 0, rfl, by simp, by simp [maxLen], by simp, fun h => absurd h (by simp)⟩

set_option maxRecDepth 100000 in
set_option maxHeartbeats 4000000 in
theorem PathAll.walk (W : World) (v : Value) (ho : EdgesV W v) (p : Value) (hp : OpsV W p) : Calls Tryd.prog 12 #[v, p] W fun e W' => e = .returned (.bool true) ∧ Below W.heap.size W W' := by
  obtain ⟨es, hE, hel, hez⟩ := ho
  obtain ⟨Ae, ce, rfl, hE0⟩ := hE
  have hE : RdE W (.slice Ae es.length ce) es := ⟨Ae, ce, rfl, hE0⟩
  have hok : ∀ e ∈ es, e.Ok := hE0.2.2.1
  obtain ⟨A, c, l, rfl, h1, h2, h4, h5⟩ := hp
  have hcm : c ≤ 9223372036854775807 := maxLen_eq ▸ h2
  have HOK := Lib.hid h4
  have HR := Lib.hid h5
  obtain ⟨n, hn⟩ : ∃ n, l.length = n := ⟨_, rfl⟩
  have HL := Lib.hid hn
  have HE := Lib.hid hE
  have HEZ := Lib.hid hez
  have HEO := Lib.hid hok
  rw [hn] at h1 ⊢
  clear h2 h4 h5 hn hE hE0 hez hok
  go_enter Tryd.func12, Tryd.ntmps12
  go_wp2_with fail
  refine (first_any W).mono ?_
  rintro e w1 ⟨rfl, hb1⟩
  have HB1 := Lib.hid hb1
  clear hb1
  go_wp2_with fail
  refine (copyEdges_any w1 Ae es.length ce es (HE.out.below HB1.out) HEZ.out (by omega)).mono ?_
  rintro e w2 ⟨vk, rfl, hok2, hb2⟩
  have HK2 := Lib.hid (RdE.of_own hok2 HEO.out)
  have HB2 := Lib.hid (below_lift HB1.out hb2)
  obtain ⟨Ak, ck, rfl⟩ := own_form hok2
  clear hok2 hb2 HB1
  go_wp2_with fail
  refine (newTable_any w2 _ es (HE.out.below HB2.out)).mono ?_
  rintro e w3 ⟨t, rfl, ht, _, hb3⟩
  have HT3 := Lib.hid ht
  have HK3 := Lib.hid (HK2.out.below hb3)
  have HB3 := Lib.hid (below_lift HB2.out hb3)
  clear ht hb3 HK2 HB2
  go_wp2_with fail
  refine (newTable_any w3 _ [] (rde_nil w3)).mono ?_
  rintro e w4 ⟨u, rfl, hu, _, hb4⟩
  have HS := Lib.hid (show AllS t u (.slice Ak es.length ck) es W w4 from ⟨HT3.out.below hb4, hu, HK3.out.below hb4, below_lift HB3.out hb4⟩)
  clear hu hb4 HT3 HK3 HB3
  go_wp2_with fail
  go_loopw [8] (fun v8 wr => ∃ i : Nat, i ≤ n ∧ v8 = .int .i64 i ∧ Hid (AllS t u (.slice Ak es.length ck) es W wr)) (fun v8 _ => n - (intOf v8).toNat)
  case atStart => exact ⟨0, by omega, rfl, HS⟩
  case round =>
    clear HS
    obtain ⟨i, hi, rfl, HX⟩ := hrel
    by_cases hil : i < n
    · obtain ⟨b, off, rfl, hbw, hh⟩ := HR.out (by rw [HL.out]; omega)
      obtain ⟨⟨k, tx, up, pl, sl, nn⟩, hs⟩ : ∃ x, l[i]? = some x := ⟨_, List.getElem?_eq_getElem (by rw [HL.out]; exact hil)⟩
      have HAT := Lib.hid (fun X (hX : Below W.heap.size W X) => ops_at' (hh i _ hs) hbw hX)
      obtain ⟨c0, c1, c2, c3, c4⟩ := HAT.out _ HX.out.bel
      obtain ⟨_, hts, hps, hpz, hnw⟩ := HOK.out _ (List.mem_of_getElem? hs)
      obtain ⟨Ap, cp, hu, _⟩ := hps.1
      simp only at c0 c1 c2 c3 c4 hps hpz hu hts hnw
      subst hu
      have hbr : b < wr.heap.size := Nat.lt_of_lt_of_le hbw HX.out.bel.size
      have HPS := Lib.hid hps
      have HTX := Lib.hid (plays_any wr t _ es k nn tx Ap _ cp pl sl HX.out.t1 HX.out.ed ⟨hps.1.below HX.out.bel, hps.2⟩ hpz hnw hts)
      have HPZ := Lib.hid hpz
      have HNW := Lib.hid hnw
      have HTS := Lib.hid hts
      clear hh hs hps hpz hnw hts
      by_cases hk1 : 1 ≤ k
      · by_cases hk2 : k ≤ 7
        · go_wp2_with fail
          refine HTX.out.mono ?_
          rintro e w5 ⟨rfl, hb5⟩
          have HX5 := Lib.hid (HX.out.below hb5)
          obtain ⟨c0, c1, c2, c3, c4⟩ := HAT.out _ HX5.out.bel
          have hbr : b < w5.heap.size := Nat.lt_of_lt_of_le hbw HX5.out.bel.size
          clear hb5 HTX HX
          go_wp2_with fail
          refine (plays_any w5 u _ [] k nn tx Ap _ cp pl sl HX5.out.t2 (rde_nil _) ⟨HPS.out.1.below HX5.out.bel, HPS.out.2⟩ HPZ.out HNW.out HTS.out).mono ?_
          rintro e w6 ⟨rfl, hb6⟩
          have HX6 := Lib.hid (HX5.out.below hb6)
          clear hb6 HX5
          go_wp2_with fail
          go_roundw
          case rel => exact ⟨i + 1, by omega, by go_num, HX6⟩
          case measure => simp [intOf]; omega
        · go_wp2_with fail
          go_roundw
          case rel => exact ⟨i + 1, by omega, by go_num, HX⟩
          case measure => simp [intOf]; omega
      · go_wp2_with fail
        go_roundw
        case rel => exact ⟨i + 1, by omega, by go_num, HX⟩
        case measure => simp [intOf]; omega
    · obtain rfl : i = n := by omega
      go_wp2_with fail
      go_ret
      exact ⟨rfl, HX.out.bel⟩

end Go.Proofs.YtpombeiabgbpiaaDoor
