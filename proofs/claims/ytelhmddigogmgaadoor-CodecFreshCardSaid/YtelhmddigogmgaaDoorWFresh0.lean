/-
What freshLines of the statements answers for fewer than 64 bytes: true.
-/
import Derived.Test.YtelhmddigogmgaaDoorWFresh
namespace Go.Proofs.YtelhmddigogmgaaDoor
open Go.RowKit

theorem Ln.nil (w : World) (A : Option Addr) : Ln w A 0 [] := ⟨rfl, by omega, by simp, by omega⟩
theorem rd_nil (w : World) {A : Option Addr} {c : Nat} (h : c ≤ 9223372036854775807 ∧ (c = 0 ∨ ∃ b off, A = some ⟨b, off, none⟩)) : Rd w .u8 A 0 c [] := ⟨rfl, by omega, h.1, by omega, h.2.imp id fun ⟨b, off, e⟩ => ⟨b, off, e, fun j hj => by omega⟩⟩
theorem own_slice {w : World} {B n : Nat} {e : TypeId} {s : Nat} {v : Value} {xs : List Value} (h : w.ownsRow B e s v n xs) : ∃ A c, v = .slice A n c ∧ (A = none → c = 0) ∧ ∀ ad, A = some ad → ad.spot = none := by
  rcases h.2 with ⟨rfl, h1⟩ | ⟨g, cap, cur, rfl, _⟩
  · subst h1; exact ⟨none, 0, rfl, fun _ => rfl, fun _ h => by cases h⟩
  · exact ⟨_, cap, rfl, (fun h => (by cases h)), (fun _ h => (by cases h; rfl))⟩

set_option maxRecDepth 100000 in
set_option maxHeartbeats 4000000 in
theorem freshLines_none (l : List Nat) (A : Option Addr) (n c : Nat) (w : World) (hr : Rd w .u8 A n c l) (h64 : n < 64) :
    Calls Tryd.prog 40 #[.slice A n c] w fun e w' => e = .returned (.bool true) ∧ Below w.heap.size w w' := by
  have hcap := hr.le
  have hcc := hr.cap
  have e2 : (n : Int) / 64 = 0 := by omega
  have k1 : ∀ W : World, (Instr.slice 23 (.slice A n c) none (some (.int .i64 0)) none).run Tryd.prog W = .ok (.slice A 0 c) W := run_sliceTo (P := Tryd.prog) (A := A) (n := n) (c := c) Tryd.underlying23 size5 0 (by omega)
  have HR : Hid (Rd w .u8 A 0 c []) := hr.take 0 (by omega)
  obtain ⟨i0, hi, hz0, hz1, hz2⟩ := info_parts info33
  have Hz0 := Lib.hid hz0
  clear hr hz0
  go_enter Tryd.func40, Tryd.ntmps40
  go_wp2_with fail
  refine (copyBytes_any [] A 0 c w HR.out).mono ?_
  rintro e w1 ⟨v1, rfl, ho1, hb1⟩
  obtain ⟨A1, c1, rfl, r1⟩ := Rd.own ho1 (by omega)
  have HB1 := Lib.hid hb1
  have R1c := Lib.hid (show c1 ≤ 9223372036854775807 ∧ (c1 = 0 ∨ ∃ b off, A1 = some ⟨b, off, none⟩) from ⟨r1.cap, r1.2.2.2.2.imp id fun ⟨b, off, e, _⟩ => ⟨b, off, e⟩⟩)
  clear ho1 hb1 k1 r1
  go_wp2_with fail
  refine (lines_yes [] A 0 c 0 w1 (HR.out.below HB1.out) rfl).mono ?_
  rintro e w2 ⟨v2, rfl, ho2, hb2⟩
  obtain ⟨A2, c2, rfl, hA2, hA2'⟩ := own_slice ho2
  have HO2 := Lib.hid ho2
  have HB2 := Lib.hid (HB1.out.trans (hb2.mono HB1.out.size))
  have hs2 := hb2.size
  have hs1 := HB1.out.size
  clear ho2 hb2 HB1
  go_wp2_with fail
  refine (lines_yes [] A 0 c 0 w2 (HR.out.below HB2.out) rfl).mono ?_
  rintro e w3 ⟨v3, rfl, ho3, hb3⟩
  obtain ⟨A3, c3, rfl, _, _⟩ := own_slice ho3
  have HO3 := Lib.hid (own_under HO2.out hb3)
  have HB3 := Lib.hid (HB2.out.trans (hb3.mono HB2.out.size))
  have hs3 := hb3.size
  clear ho3 hb3 HB2 HO2
  go_wp2_with fail
  refine (sameLines_any [] A2 A3 0 c2 c3 w3 (Ln.nil _ _) (Ln.nil _ _)).mono ?_
  rintro e w4 ⟨rfl, hb4⟩
  have HO4 := Lib.hid (own_under HO3.out hb4)
  have HB4 := Lib.hid (HB3.out.trans (hb4.mono HB3.out.size))
  have hs4 := hb4.size
  clear hb4 HB3 HO3
  rcases A2 with _ | ad
  · obtain rfl := hA2 rfl
    clear hA2 hA2'
    go_wp2_with (at_builtin; refine wpList_append_own_none rfl _ _ 51 rfl w4.heap.size 33 i0 64 Tryd.underlying51 hi (.slice none 0 0) 0 [] rfl (World.ownsRow_nil _ _ _ _) rfl ?_)
    go_wp2_with fail
    refine wp_loop_rounds 1 ?_
    rw [rounds_succ]
    go_wp2_with (at_builtin; refine wpList_append_own _ rfl _ _ 51 rfl w1.heap.size 33 i0 (.agg (u8s (List.replicate 64 0))) 64 64 Tryd.underlying51 hi Hz0.out hz1 hz2 (by rw [Value.cells, u8s_size]; simp) (by decide) _ 0 _ rfl (HO4.out.alloc _) ⟨w4.heap.size, 0, none⟩ 1 1 (vals .u8 (ln 2 0)) rfl rfl (World.news_of_block (cs := List.toArray (.int .u8 2 :: .int .u8 0 :: .int .u8 0 :: .int .u8 0 :: .int .u8 0 :: .int .u8 0 :: .int .u8 0 :: .int .u8 0 :: .int .u8 0 :: .int .u8 0 :: .int .u8 0 :: .int .u8 0 :: .int .u8 0 :: .int .u8 0 :: .int .u8 0 :: .int .u8 0 :: .int .u8 0 :: .int .u8 0 :: .int .u8 0 :: .int .u8 0 :: .int .u8 0 :: .int .u8 0 :: .int .u8 0 :: .int .u8 0 :: .int .u8 0 :: .int .u8 0 :: .int .u8 0 :: .int .u8 0 :: .int .u8 0 :: .int .u8 0 :: .int .u8 0 :: .int .u8 0 :: .int .u8 0 :: .int .u8 0 :: .int .u8 0 :: .int .u8 0 :: .int .u8 0 :: .int .u8 0 :: .int .u8 0 :: .int .u8 0 :: .int .u8 0 :: .int .u8 0 :: .int .u8 0 :: .int .u8 0 :: .int .u8 0 :: .int .u8 0 :: .int .u8 0 :: .int .u8 0 :: .int .u8 0 :: .int .u8 0 :: .int .u8 0 :: .int .u8 0 :: .int .u8 0 :: .int .u8 0 :: .int .u8 0 :: .int .u8 0 :: .int .u8 0 :: .int .u8 0 :: .int .u8 0 :: .int .u8 0 :: .int .u8 0 :: .int .u8 0 :: .int .u8 0 :: .int .u8 0 :: [])) (t := 33) (fr := (0, 0)) (heap_alloc_new w4 _)) (vals_one _ _) (by simp only [maxLen]; omega) (by omega) (by simp; omega) ?_; intro v6 w6 hown6 hg6 _)
    have hb6 : Below w.heap.size w w6 := (HB4.out.alloc (by have := HB4.out.size; omega) _).grown hg6 (by simp; omega) (fun b hb => by have := (HO4.out.lt b hb).1; omega)
    obtain ⟨A6, c6, rfl, _, _⟩ := own_slice hown6
    have HB6 := Lib.hid hb6
    have hb65 : Below w1.heap.size w4 w6 := ((Below.refl _ _).alloc (by omega) _).grown hg6 (by simp; omega) (fun b hb => (HO4.out.lt b hb).1)
    clear hb6 hb65 hown6 hg6
    go_wp2_with fail
    refine (lines_yes [] A 0 c 0 w6 (HR.out.below HB6.out) rfl).mono ?_
    rintro e w7 ⟨v7, rfl, ho7, hb7⟩
    obtain ⟨A7, c7, rfl, _, _⟩ := own_slice ho7
    have HB7 := Lib.hid (HB6.out.trans (hb7.mono HB6.out.size))
    clear ho7 hb7 HB6
    go_wp2_with fail
    refine (sameLines_any [] A3 none 0 c3 0 w7 (Ln.nil _ _) (Ln.nil _ _)).mono ?_
    rintro e w8 ⟨rfl, hb8⟩
    have HB8 := Lib.hid (HB7.out.trans (hb8.mono HB7.out.size))
    clear hb8 HB7
    go_wp2_with fail
    refine (sameLines_any [] A7 none 0 c7 0 w8 (Ln.nil _ _) (Ln.nil _ _)).mono ?_
    rintro e w9 ⟨rfl, hb9⟩
    have HB9 := Lib.hid (HB8.out.trans (hb9.mono HB8.out.size))
    clear hb9 HB8
    go_wp2_with fail
    refine (sameBytes_any [] A A1 0 c c1 w9 (HR.out.below HB9.out) (rd_nil w9 R1c.out)).mono ?_
    rintro e w10 ⟨rfl, m10, rfl⟩
    have HB10 := Lib.hid (below_drewN HB9.out m10)
    clear HB9
    generalize w9.drewN m10 = w10 at *
    go_wp2_with fail
    refine wp_loop_rounds 1 ?_
    rw [rounds_succ]
    go_wp2_with fail
    refine wp_loop_rounds 1 ?_
    rw [rounds_succ]
    go_wp2_with fail
    refine (sameLines_any [] A7 none 0 c7 0 w10 (Ln.nil _ _) (Ln.nil _ _)).mono ?_
    rintro e w11 ⟨rfl, hb11⟩
    have HB11 := Lib.hid (HB10.out.trans (hb11.mono HB10.out.size))
    clear hb11 HB10
    go_wp2_with fail
    refine (sameBytes_any [] A A1 0 c c1 w11 (HR.out.below HB11.out) (rd_nil w11 R1c.out)).mono ?_
    rintro e w12 ⟨rfl, m12, rfl⟩
    go_wp2_with fail
    go_ret
    exact ⟨rfl, below_drewN HB11.out _⟩
  · clear hA2
    have HNW := Lib.hid (show ∀ j u, ([] : List Value)[j]? = some u → w4.cell? (ad.add j) = some u from fun j u h => by simp at h)
    go_wp2_with (at_builtin; refine wpList_append_own _ rfl _ _ 51 rfl w4.heap.size 33 i0 (.agg (u8s (List.replicate 64 0))) 64 64 Tryd.underlying51 hi Hz0.out hz1 hz2 (by rw [Value.cells, u8s_size]; simp) (by decide) _ 0 [] rfl (World.ownsRow_nil _ _ _ _) ad 0 c2 [] rfl rfl HNW.out (by simp) (by simp only [maxLen]; omega) (by omega) (by omega) ?_; intro v5 w5 hown5 hg5 _)
    have hb5 : Below w4.heap.size w4 w5 := (Below.refl _ _).grown hg5 (Nat.le_refl _) (fun b hb => by cases hb)
    obtain ⟨A5, c5, rfl, _, _⟩ := own_slice (show w5.ownsRow w4.heap.size 33 64 v5 0 [] from hown5)
    have HO5 := Lib.hid (own_under HO4.out hb5)
    have HB5 := Lib.hid (HB4.out.trans (hb5.mono HB4.out.size))
    have hs5 := hb5.size
    clear hb5 hown5 hg5 HNW hA2' HO4 HB4
    go_wp2_with fail
    refine wp_loop_rounds 1 ?_
    rw [rounds_succ]
    go_wp2_with (at_builtin; refine wpList_append_own _ rfl _ _ 51 rfl w1.heap.size 33 i0 (.agg (u8s (List.replicate 64 0))) 64 64 Tryd.underlying51 hi Hz0.out hz1 hz2 (by rw [Value.cells, u8s_size]; simp) (by decide) _ 0 _ rfl (HO5.out.alloc _) ⟨w5.heap.size, 0, none⟩ 1 1 (vals .u8 (ln 2 0)) rfl rfl (World.news_of_block (cs := List.toArray (.int .u8 2 :: .int .u8 0 :: .int .u8 0 :: .int .u8 0 :: .int .u8 0 :: .int .u8 0 :: .int .u8 0 :: .int .u8 0 :: .int .u8 0 :: .int .u8 0 :: .int .u8 0 :: .int .u8 0 :: .int .u8 0 :: .int .u8 0 :: .int .u8 0 :: .int .u8 0 :: .int .u8 0 :: .int .u8 0 :: .int .u8 0 :: .int .u8 0 :: .int .u8 0 :: .int .u8 0 :: .int .u8 0 :: .int .u8 0 :: .int .u8 0 :: .int .u8 0 :: .int .u8 0 :: .int .u8 0 :: .int .u8 0 :: .int .u8 0 :: .int .u8 0 :: .int .u8 0 :: .int .u8 0 :: .int .u8 0 :: .int .u8 0 :: .int .u8 0 :: .int .u8 0 :: .int .u8 0 :: .int .u8 0 :: .int .u8 0 :: .int .u8 0 :: .int .u8 0 :: .int .u8 0 :: .int .u8 0 :: .int .u8 0 :: .int .u8 0 :: .int .u8 0 :: .int .u8 0 :: .int .u8 0 :: .int .u8 0 :: .int .u8 0 :: .int .u8 0 :: .int .u8 0 :: .int .u8 0 :: .int .u8 0 :: .int .u8 0 :: .int .u8 0 :: .int .u8 0 :: .int .u8 0 :: .int .u8 0 :: .int .u8 0 :: .int .u8 0 :: .int .u8 0 :: .int .u8 0 :: [])) (t := 33) (fr := (0, 0)) (heap_alloc_new w5 _)) (vals_one _ _) (by simp only [maxLen]; omega) (by omega) (by simp; omega) ?_; intro v6 w6 hown6 hg6 _)
    have hb6 : Below w.heap.size w w6 := (HB5.out.alloc (by have := HB5.out.size; omega) _).grown hg6 (by simp; omega) (fun b hb => by have := (HO5.out.lt b hb).1; omega)
    obtain ⟨A6, c6, rfl, _, _⟩ := own_slice hown6
    have HB6 := Lib.hid hb6
    have hb65 : Below w1.heap.size w5 w6 := ((Below.refl _ _).alloc (by omega) _).grown hg6 (by simp; omega) (fun b hb => (HO5.out.lt b hb).1)
    clear hb6 hb65 hown6 hg6
    go_wp2_with fail
    refine (lines_yes [] A 0 c 0 w6 (HR.out.below HB6.out) rfl).mono ?_
    rintro e w7 ⟨v7, rfl, ho7, hb7⟩
    obtain ⟨A7, c7, rfl, _, _⟩ := own_slice ho7
    have HB7 := Lib.hid (HB6.out.trans (hb7.mono HB6.out.size))
    clear ho7 hb7 HB6
    go_wp2_with fail
    refine (sameLines_any [] A3 A5 0 c3 c5 w7 (Ln.nil _ _) (Ln.nil _ _)).mono ?_
    rintro e w8 ⟨rfl, hb8⟩
    have HB8 := Lib.hid (HB7.out.trans (hb8.mono HB7.out.size))
    clear hb8 HB7
    go_wp2_with fail
    refine (sameLines_any [] A7 A5 0 c7 c5 w8 (Ln.nil _ _) (Ln.nil _ _)).mono ?_
    rintro e w9 ⟨rfl, hb9⟩
    have HB9 := Lib.hid (HB8.out.trans (hb9.mono HB8.out.size))
    clear hb9 HB8
    go_wp2_with fail
    refine (sameBytes_any [] A A1 0 c c1 w9 (HR.out.below HB9.out) (rd_nil w9 R1c.out)).mono ?_
    rintro e w10 ⟨rfl, m10, rfl⟩
    have HB10 := Lib.hid (below_drewN HB9.out m10)
    clear HB9
    generalize w9.drewN m10 = w10 at *
    go_wp2_with fail
    refine wp_loop_rounds 1 ?_
    rw [rounds_succ]
    go_wp2_with fail
    refine wp_loop_rounds 1 ?_
    rw [rounds_succ]
    go_wp2_with fail
    refine (sameLines_any [] A7 A5 0 c7 c5 w10 (Ln.nil _ _) (Ln.nil _ _)).mono ?_
    rintro e w11 ⟨rfl, hb11⟩
    have HB11 := Lib.hid (HB10.out.trans (hb11.mono HB10.out.size))
    clear hb11 HB10
    go_wp2_with fail
    refine (sameBytes_any [] A A1 0 c c1 w11 (HR.out.below HB11.out) (rd_nil w11 R1c.out)).mono ?_
    rintro e w12 ⟨rfl, m12, rfl⟩
    go_wp2_with fail
    go_ret
    exact ⟨rfl, below_drewN HB11.out _⟩

theorem freshLines_any (l : List Nat) (A : Option Addr) (n c : Nat) (w : World) (hr : Rd w .u8 A n c l) (hl : ∀ x ∈ l, x < 256) (hn : n ≤ 140737488351232) :
    Calls Tryd.prog 40 #[.slice A n c] w fun e w' => e = .returned (.bool true) ∧ Below w.heap.size w w' := by
  by_cases h : n < 64
  · exact freshLines_none l A n c w hr h
  · exact freshLines_some l A n c w hr hl hn (by omega)

end Go.Proofs.YtelhmddigogmgaaDoor
