/-
PathTexts: every Parse, Text and Clean answers what the document answers, and leaves the path that is handed in as it was.
-/
import Derived.Test.YtpombeiabgbpiaaDoorWTexts
namespace Go.Proofs.YtpombeiabgbpiaaDoor
open Go.RowKit

/-- the i-th call of a script -/
theorem ops_at {W W' : World} {b off i : Nat} {a : OpR} (h : W.rangeAt b (off + i * 5) (opC a)) (hb : b < W.heap.size) (hk : Below W.heap.size W W') :
    W'.cell? ⟨b, off + i * 5, none⟩ = some (.int .i64 a.1) ∧ W'.cell? ⟨b, off + i * 5 + 1, none⟩ = some (.string a.2.1) ∧ W'.cell? ⟨b, off + i * 5 + 2, none⟩ = some a.2.2.1 ∧ W'.cell? ⟨b, off + i * 5 + 3, none⟩ = some (.bool a.2.2.2.2.1) ∧ W'.cell? ⟨b, off + i * 5 + 4, none⟩ = some (.int .i64 a.2.2.2.2.2) :=
  ⟨(hk.cell hb).trans (h 0 _ rfl), (hk.cell hb).trans (h 1 _ rfl), (hk.cell hb).trans (h 2 _ rfl), (hk.cell hb).trans (h 3 _ rfl), (hk.cell hb).trans (h 4 _ rfl)⟩

set_option maxRecDepth 100000 in
set_option maxHeartbeats 4000000 in
theorem PathTexts.walk (W : World) (v : Value) (ho : OpsV W v) : Calls Tryd.prog 10 #[v] W fun e W' => e = .returned (.bool true) ∧ Below W.heap.size W W' := by
  obtain ⟨A, c, l, rfl, h1, h2, h4, h5⟩ := ho
  have hcm : c ≤ 9223372036854775807 := maxLen_eq ▸ h2
  have HOK := Lib.hid h4
  have HR := Lib.hid h5
  obtain ⟨n, hn⟩ : ∃ n, l.length = n := ⟨_, rfl⟩
  have HL := Lib.hid hn
  rw [hn] at h1 ⊢
  clear h2 h4 h5 hn
  go_enter Tryd.func10, Tryd.ntmps10
  go_wp2_with fail
  refine (first_any W).mono ?_
  rintro e w1 ⟨rfl, hb1⟩
  have HB1 := Lib.hid hb1
  clear hb1
  go_wp2_with fail
  go_loopw [3] (fun v3 wr => ∃ i : Nat, i ≤ n ∧ v3 = .int .i64 i ∧ Hid (Below W.heap.size W wr)) (fun v3 _ => n - (intOf v3).toNat)
  case atStart => exact ⟨0, by omega, rfl, HB1⟩
  case round =>
    clear HB1
    obtain ⟨i, hi, rfl, HX⟩ := hrel
    by_cases hil : i < n
    · obtain ⟨b, off, rfl, hbw, hh⟩ := HR.out (by rw [HL.out]; omega)
      obtain ⟨⟨k, t, u, pl, sl, nn⟩, hs⟩ : ∃ x, l[i]? = some x := ⟨_, List.getElem?_eq_getElem (by rw [HL.out]; exact hil)⟩
      obtain ⟨c0, c1, c2, c3, c4⟩ := ops_at (hh i _ hs) hbw HX.out
      obtain ⟨_, hts, hps, hpz, _⟩ := HOK.out _ (List.mem_of_getElem? hs)
      obtain ⟨Ap, cp, hu, _⟩ := hps.1
      simp only at c0 c1 c2 c3 c4 hps hpz hu
      subst hu
      have hbr : b < wr.heap.size := Nat.lt_of_lt_of_le hbw HX.out.size
      have HTX := Lib.hid (texts_any wr k nn t Ap _ cp pl sl ⟨hps.1.below HX.out, hps.2⟩ hpz)
      clear hh hs hps hpz
      generalize pl.length = m at *
      by_cases hk1 : 1 ≤ k
      · by_cases hk2 : k ≤ 3
        · go_wp2_with fail
          refine HTX.out.mono ?_
          rintro e w2 ⟨rfl, hb2⟩
          have HX2 := Lib.hid (below_lift HX.out hb2)
          clear hb2 HTX
          go_wp2_with fail
          go_roundw
          case rel => exact ⟨i + 1, by omega, by go_num, HX2⟩
          case measure => simp [intOf]; omega
        · go_wp2_with fail
          go_roundw
          case rel => exact ⟨i + 1, by omega, by go_num, HX⟩
          case measure => simp [intOf]; omega
      · go_wp2_with fail
        go_roundw
        case rel => exact ⟨i + 1, by omega, by go_num, HX⟩
        case measure => simp [intOf]; omega
    · obtain rfl : i = n := by omega
      go_wp2_with fail
      go_ret
      exact ⟨rfl, HX.out⟩

end Go.Proofs.YtpombeiabgbpiaaDoor
