/-
sameEdges: two lists of edges that are alike.
-/
import Derived.Test.YtpombeiabgbpiaaDoorWPlain
import Derived.BigQuiet
namespace Go.Proofs.YtpombeiabgbpiaaDoor
open Go.RowKit

set_option maxRecDepth 100000 in
set_option maxHeartbeats 4000000 in
theorem sameEdges_any (w : World) (v1 v2 : Value) (es : List EdgeV) (h1 : RdE w v1 es) (h2 : RdE w v2 es) : Calls Tryd.prog 30 #[v1, v2] w fun e w' => e = .returned (.bool true) ∧ Below w.heap.size w w' := by
  obtain ⟨A, c, rfl, a1, a2, _, a3⟩ := h1
  obtain ⟨A', c', rfl, b1, b2, _, b3⟩ := h2
  have hcm : c ≤ 9223372036854775807 := maxLen_eq ▸ a2
  have hcm' : c' ≤ 9223372036854775807 := maxLen_eq ▸ b2
  have HR := Lib.hid a3
  have HR' := Lib.hid b3
  obtain ⟨n, hn⟩ : ∃ n, es.length = n := ⟨_, rfl⟩
  have HL := Lib.hid hn
  rw [hn] at a1 b1 ⊢
  clear a2 a3 b2 b3 hn
  go_enter Tryd.func30, Tryd.ntmps30
  go_wp2_with fail
  go_loopw [5] (fun v5 wr => ∃ i : Nat, i ≤ n ∧ v5 = .int .i64 i ∧ Hid (Below w.heap.size w wr)) (fun v5 _ => n - (intOf v5).toNat)
  case atStart => exact ⟨0, by omega, rfl, Lib.hid (Below.refl _ _)⟩
  case round =>
    obtain ⟨i, hi, rfl, HX⟩ := hrel
    by_cases hil : i < n
    · obtain ⟨g, off, rfl, hgw, hh⟩ := HR.out (by rw [HL.out]; omega)
      obtain ⟨g', off', rfl, hgw', hh'⟩ := HR'.out (by rw [HL.out]; omega)
      obtain ⟨⟨e1, e2, e3, e4⟩, hs⟩ : ∃ x, es[i]? = some x := ⟨_, List.getElem?_eq_getElem (by rw [HL.out]; exact hil)⟩
      have r := range_chg (Chg.of_below (fun _ => False) HX.out) (hh i _ hs) (fun h => h)
      have r' := range_chg (Chg.of_below (fun _ => False) HX.out) (hh' i _ hs) (fun h => h)
      have c0 : wr.cell? ⟨g, off + i * 4, none⟩ = some (.int .i64 e1) := r 0 _ rfl
      have c1 : wr.cell? ⟨g, off + i * 4 + 1, none⟩ = some (.string e2) := r 1 _ rfl
      have c2 : wr.cell? ⟨g, off + i * 4 + 2, none⟩ = some (.int .i64 e3) := r 2 _ rfl
      have c3 : wr.cell? ⟨g, off + i * 4 + 3, none⟩ = some (.bool e4) := r 3 _ rfl
      have d0 : wr.cell? ⟨g', off' + i * 4, none⟩ = some (.int .i64 e1) := r' 0 _ rfl
      have d1 : wr.cell? ⟨g', off' + i * 4 + 1, none⟩ = some (.string e2) := r' 1 _ rfl
      have d2 : wr.cell? ⟨g', off' + i * 4 + 2, none⟩ = some (.int .i64 e3) := r' 2 _ rfl
      have d3 : wr.cell? ⟨g', off' + i * 4 + 3, none⟩ = some (.bool e4) := r' 3 _ rfl
      clear hh hh' hs r r'
      go_wp2_with fail
      go_quiet (fail)
      have HX2 := Lib.hid (Below.drewN HX.out nq)
      generalize wr.drewN nq = wr2 at *
      clear HX
      go_wp2_with fail
      go_roundw
      case rel => exact ⟨i + 1, by omega, by go_num, HX2⟩
      case measure => simp [intOf]; omega
    · obtain rfl : i = n := by omega
      go_wp2_with fail
      go_ret
      exact ⟨rfl, HX.out⟩

end Go.Proofs.YtpombeiabgbpiaaDoor
