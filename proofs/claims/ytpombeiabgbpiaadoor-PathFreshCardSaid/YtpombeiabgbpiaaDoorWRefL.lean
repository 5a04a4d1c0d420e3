/-
The document's Look: of a list of edges, what the program's table answers.
-/
import Derived.Test.YtpombeiabgbpiaaDoorWKit
import Derived.BigQuiet
namespace Go.Proofs.YtpombeiabgbpiaaDoor
open Go.RowKit

set_option maxRecDepth 100000 in
set_option maxHeartbeats 4000000 in
theorem refLook_any (w : World) (v : Value) (es : List EdgeV) (h : RdE w v es) (d : Int) (s : ByteArray) :
    Calls Tryd.prog 49 #[v, .int .i64 d, .string s] w fun e w' => e = .returned (.tuple #[.int .i64 (lookT es d s).1, .bool (lookT es d s).2]) ∧ Below w.heap.size w w' := by
  obtain ⟨A, c, rfl, h1, h2, h4, h3⟩ := h
  have hcm : c ≤ 9223372036854775807 := maxLen_eq ▸ h2
  have HR := Lib.hid h3
  obtain ⟨n, hn⟩ : ∃ n, es.length = n := ⟨_, rfl⟩
  have HL := Lib.hid hn
  rw [hn] at h1 ⊢
  obtain ⟨⟨r1, r2⟩, hRR⟩ : ∃ R, lookT es d s = R := ⟨_, rfl⟩
  have HRR := Lib.hid hRR
  rw [hRR]
  have HNIL : Hid (es = [] → r1 = 0 ∧ r2 = false) := Lib.hid (fun e => by rw [e] at hRR; injection hRR with k1 k2; exact ⟨k1.symm, k2.symm⟩)
  clear h2 h3 h4 hn hRR
  go_enter Tryd.func49, Tryd.ntmps49
  go_wp2_with fail
  go_loopw [8] (fun v8 wr => ((v8 = .int .i64 (-1) ∧ r1 = 0 ∧ r2 = false) ∨ ∃ j : Nat, j < n ∧ v8 = .int .i64 j ∧ Hid (lookT (es.take (j + 1)) d s = (r1, r2))) ∧ wr = w) (fun v8 _ => (intOf v8 + 1).toNat)
  case atStart =>
    refine ⟨?_, rfl⟩
    rcases Nat.eq_zero_or_pos n with h0 | h0
    · refine .inl ⟨by rw [h0]; rfl, ?_⟩
      exact HNIL.out (List.length_eq_zero_iff.1 (HL.out.trans h0))
    · refine .inr ⟨n - 1, by omega, ?_, Lib.hid ?_⟩
      · congr 1; omega
      · rw [show n - 1 + 1 = n by omega, List.take_of_length_le (by rw [HL.out]; exact Nat.le_refl _)]; exact HRR.out
  case round =>
    obtain ⟨hj, rfl⟩ := hrel
    rcases hj with ⟨rfl, rfl, rfl⟩ | ⟨j, hj, rfl, HJ⟩
    · go_wp2_with fail
      go_returns
      exact ⟨rfl, Below.refl _ _⟩
    · obtain ⟨g, off, rfl, hgw, hh⟩ := HR.out (by rw [HL.out]; omega)
      obtain ⟨⟨a1, a2, a3, a4⟩, hs⟩ : ∃ x, es[j]? = some x := ⟨_, List.getElem?_eq_getElem (by rw [HL.out]; exact hj)⟩
      have hr := hh j _ hs
      have c0 : wr.cell? ⟨g, off + j * 4, none⟩ = some (.int .i64 a1) := hr 0 _ rfl
      have c1 : wr.cell? ⟨g, off + j * 4 + 1, none⟩ = some (.string a2) := hr 1 _ rfl
      have c2 : wr.cell? ⟨g, off + j * 4 + 2, none⟩ = some (.int .i64 a3) := hr 2 _ rfl
      have c3 : wr.cell? ⟨g, off + j * 4 + 3, none⟩ = some (.bool a4) := hr 3 _ rfl
      have hJ := HJ.out
      rw [List.take_add_one, hs, Option.toList_some, lookT_snoc] at hJ
      clear hr hh hs HJ
      by_cases hm : 1 ≤ a3 ∧ a1 = d ∧ a2 = s
      · obtain ⟨m1, m2, m3⟩ := hm
        rw [if_pos ⟨m1, m2, m3⟩] at hJ
        obtain ⟨rfl, rfl⟩ := Prod.mk.inj hJ
        have b1 : (a1 == d) = true := by rw [m2]; simp
        have b2 : (a2.toList == s.toList) = true := by rw [m3]; simp
        clear hJ m2 m3
        go_wp2_with fail
        go_quiet (fail)
        go_wp2_with fail
        go_returns
        exact ⟨rfl, (show Below _ _ _ from ⟨rfl, rfl, rfl, Nat.le_refl _, fun _ _ => rfl⟩)⟩
      · rw [if_neg hm] at hJ
        have hcase : (a1 == d) = false ∨ ((a1 == d) = true ∧ (a2.toList == s.toList) = false) ∨ ((a1 == d) = true ∧ (a2.toList == s.toList) = true ∧ ¬ 1 ≤ a3) := by
          by_cases m2 : a1 = d
          · by_cases m3 : a2 = s
            · exact .inr (.inr ⟨by rw [m2]; simp, by rw [m3]; simp, fun m1 => hm ⟨m1, m2, m3⟩⟩)
            · refine .inr (.inl ⟨by rw [m2]; simp, ?_⟩)
              rw [beq_eq_false_iff_ne]
              intro e
              rw [toList_bys, toList_bys] at e
              exact m3 (bys_inj e)
          · exact .inl (by rw [beq_eq_false_iff_ne]; exact m2)
        have HJ := Lib.hid hJ
        clear hm hJ
        rcases hcase with b1 | ⟨b1, b2⟩ | ⟨b1, b2, b3⟩
        all_goals
          go_wp2_with fail
          go_roundw
          case rel =>
            refine ⟨?_, trivial⟩
            rcases Nat.eq_zero_or_pos j with h0 | h0
            · refine .inl ⟨by rw [h0]; rfl, ?_⟩
              have := HJ.out
              rw [h0] at this
              injection this with k1 k2
              exact ⟨k1.symm, k2.symm⟩
            · refine .inr ⟨j - 1, by omega, ?_, Lib.hid ?_⟩
              · congr 1; omega
              · rw [show j - 1 + 1 = j by omega]; exact HJ.out
          case measure => simp [intOf]

end Go.Proofs.YtpombeiabgbpiaaDoor
