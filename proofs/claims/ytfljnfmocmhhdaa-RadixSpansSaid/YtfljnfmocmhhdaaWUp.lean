/-
plays and upTo: every step of every script is answered as the document says.
-/
import Derived.Test.YtfljnfmocmhhdaaWMakes
namespace Go.Proofs.Ytfljnfmocmhhdaa
open Go.RowKit

/-- a step of a script -/
structure OpR where
  k : Int
  d : Int
  off : Int
  v : Int
  A : Option Addr
  n : Nat
  c : Nat
  rs : List Run
def OpR.cells (o : OpR) : List Value := [.int .i64 o.k, .int .i64 o.d, .int .i64 o.off, .int .i64 o.v, .slice o.A o.n o.c]
structure OpR.Ok (o : OpR) : Prop where
  o1 : -9223372036854775808 ≤ o.off
  v1 : -9223372036854775808 ≤ o.v
  v2 : o.v ≤ 9223372036854775807
def OpR.In (o : OpR) (w : World) : Prop := RdR w o.A o.n o.c o.rs

/-- a script: steps in a row, each well formed -/
def Script (w : World) (A : Option Addr) (n c : Nat) (os : List OpR) : Prop :=
  os.length = n ∧ n ≤ c ∧ n ≤ 140737488355328 ∧ (∀ o ∈ os, o.Ok ∧ o.In w) ∧ (0 < n → ∃ b off, A = some ⟨b, off, none⟩ ∧ ∀ i (h : i < os.length) j v, os[i].cells[j]? = some v → w.cell? ⟨b, off + i * 5 + j, none⟩ = some v)
theorem Script.below {w w' : World} {A : Option Addr} {n c : Nat} {os : List OpR} (h : Script w A n c os) (hb : Below w.heap.size w w') : Script w' A n c os :=
  ⟨h.1, h.2.1, h.2.2.1, fun o ho => ⟨(h.2.2.2.1 o ho).1, (h.2.2.2.1 o ho).2.below hb⟩, fun hn => by
    obtain ⟨b, off, e, hc⟩ := h.2.2.2.2 hn
    exact ⟨b, off, e, fun i hi j v hv => cell_below hb (hc i hi j v hv)⟩⟩

set_option maxRecDepth 100000 in
set_option maxHeartbeats 4000000 in
theorem plays_any (w W : World) (g : Nat) (hst : ∃ r q f lb, St w 3 g r q f lb W) (K D O V : Int) (A : Option Addr) (n c : Nat) (l : List Run) (hl : RdR W A n c l)
    (hO : -9223372036854775808 ≤ O) (hV : -9223372036854775808 ≤ V ∧ V ≤ 9223372036854775807) :
    Calls Try.prog 46 #[.pointer (some ⟨g, 0, none⟩), .agg #[.int .i64 K, .int .i64 D, .int .i64 O, .int .i64 V, .slice A n c]] W fun e W' => e = .returned (.bool true) ∧ ∃ r q f lb, St w 3 g r q f lb W' := by
  obtain ⟨r, q, f, lb, h⟩ := hst
  obtain ⟨W1, hW1⟩ : ∃ X, W.alloc (.cells #[.int .i64 K, .int .i64 D, .int .i64 O, .int .i64 V, .slice A n c] 78) = X := ⟨_, rfl⟩
  obtain ⟨hb, b0, b1, b2, b3, b4, hs⟩ := box5 _ _ _ _ _ _ _ _ hW1
  have H1 := Lib.hid (h.below hb)
  have HA := Lib.hid (asks_any w W1 g r q f lb H1.out K D O V A n c hO hV)
  have HM := Lib.hid (makes_any w W1 g r q f lb H1.out K D O V A n c l (hl.below hb))
  clear h hl hO hV hb hs
  have hk : (1 ≤ K ∧ K ≤ 5) ∨ (6 ≤ K ∧ K ≤ 8) ∨ (1 ≤ K ∧ 8 < K) ∨ K < 1 := by omega
  rcases hk with ⟨k1, k2⟩ | ⟨k1, k2⟩ | ⟨k1, k2⟩ | k1
  · go_enter Try.func46, Try.ntmps46
    go_wp2_with (rw [hW1])
    refine HA.out.mono ?_
    rintro e W2 ⟨rfl, f2, lb2, hst⟩
    have HZ := Lib.hid hst
    clear hst
    go_wp2_with fail
    go_ret
    exact ⟨rfl, _, _, _, _, HZ.out⟩
  · go_enter Try.func46, Try.ntmps46
    go_wp2_with (rw [hW1])
    refine HM.out.mono ?_
    rintro e W2 ⟨rfl, r2, q2, f2, lb2, hst⟩
    have HZ := Lib.hid hst
    clear hst
    go_wp2_with fail
    go_ret
    exact ⟨rfl, _, _, _, _, HZ.out⟩
  · go_enter Try.func46, Try.ntmps46
    go_wp2_with (rw [hW1])
    go_ret
    exact ⟨rfl, _, _, _, _, H1.out⟩
  · go_enter Try.func46, Try.ntmps46
    go_wp2_with (rw [hW1])
    go_ret
    exact ⟨rfl, _, _, _, _, H1.out⟩

set_option maxRecDepth 100000 in
set_option maxHeartbeats 8000000 in
theorem up_any (lo hi : Int) (A : Option Addr) (n c : Nat) (os : List OpR) (w : World) (hs : Script w A n c os) :
    Calls Try.prog 41 #[.slice A n c, .int .i64 lo, .int .i64 hi] w fun e w' => e = .returned (.bool true) ∧ Below w.heap.size w w' := by
  have hn := hs.2.2.1
  have hnc := hs.2.1
  have HS := Lib.hid hs
  clear hs
  go_enter Try.func41, Try.ntmps41
  go_wp2_with fail
  refine (begin_any w).mono ?_
  rintro e w1 ⟨g, r, q, f, lb, rfl, hst⟩
  have H0 : Hid (∃ r q f lb, St w 3 g r q f lb w1) := ⟨_, _, _, _, hst⟩
  clear hst
  go_wp2_with fail
  go_loopw [9] (fun v9 wr => ∃ k : Nat, k ≤ n ∧ v9 = .int .i64 k ∧ Hid (∃ r q f lb, St w 3 g r q f lb wr)) (fun v9 _ => n - (intOf v9).toNat)
  case atStart => exact ⟨0, by omega, rfl, H0⟩
  case round =>
    clear H0
    obtain ⟨k, hk, rfl, HB⟩ := hrel
    by_cases hlt : k < n
    · by_cases h400 : k < 400
      · obtain ⟨r2, q2, f2, lb2, hst⟩ := HB.out
        have S := HS.out.below hst.bel
        have hl := S.1
        obtain ⟨b, off, rfl, hc⟩ := S.2.2.2.2 (by omega)
        have hr := hc k (by omega)
        obtain ⟨hok, hin⟩ := S.2.2.2.1 _ (List.getElem_mem (by omega : k < os.length))
        generalize os[k]'(by omega) = o at *
        obtain ⟨K, D, O, V, A2, n2, c2, rs⟩ := o
        have c0 : wr.cell? ⟨b, off + k * 5, none⟩ = some (.int .i64 K) := hr 0 _ rfl
        have c1 : wr.cell? ⟨b, off + k * 5 + 1, none⟩ = some (.int .i64 D) := hr 1 _ rfl
        have c2 : wr.cell? ⟨b, off + k * 5 + 2, none⟩ = some (.int .i64 O) := hr 2 _ rfl
        have c3 : wr.cell? ⟨b, off + k * 5 + 3, none⟩ = some (.int .i64 V) := hr 3 _ rfl
        have c4 : wr.cell? ⟨b, off + k * 5 + 4, none⟩ = some (.slice A2 n2 _) := hr 4 _ rfl
        have HPL := Lib.hid (fun W' (hb : Below wr.heap.size wr W') => plays_any w W' g ⟨r2, q2, f2, lb2, hst.below hb⟩ K D O V A2 n2 _ rs (hin.below hb) hok.o1 ⟨hok.v1, hok.v2⟩)
        have HB2 : Hid (∀ W', Below wr.heap.size wr W' → ∃ r q f lb, St w 3 g r q f lb W') := fun W' hb => ⟨_, _, _, _, hst.below hb⟩
        have HAL := Lib.hid (fun (o : Obj) => (Below.refl wr.heap.size wr).alloc (Nat.le_refl _) o)
        clear hc S hok hin hr hst HB hl HS
        have hheld : (lo ≤ K ∧ K ≤ hi) ∨ (lo ≤ K ∧ hi < K) ∨ K < lo := by omega
        have hch : K = 1 ∨ K = 4 ∨ 6 ≤ K ∨ (K ≠ 1 ∧ K ≠ 4 ∧ K < 6) := by omega
        rcases hheld with ⟨g1, g2⟩ | ⟨g1, g2⟩ | g1 <;> rcases hch with rfl | rfl | g3 | ⟨g3, g4, g5⟩
        all_goals
          go_wp2_with (refine (HPL.out _ (HAL.out _)).mono ?_; rintro e w2 ⟨rfl, hst2⟩; have HZ := Lib.hid hst2; clear hst2)
          go_roundw
          case rel => first | exact ⟨k + 1, by omega, by go_num, HZ⟩ | exact ⟨k + 1, by omega, by go_num, HB2.out _ (HAL.out _)⟩
          case measure => simp [intOf]; omega
        all_goals exact ⟨⟨k + 1, by omega, by go_num, HB2.out _ (HAL.out _)⟩, by simp [intOf]; omega⟩
      · go_wp2_with fail
        go_ret
        obtain ⟨r2, q2, f2, lb2, hst⟩ := HB.out
        exact ⟨rfl, hst.bel⟩
    · go_wp2_with fail
      go_ret
      obtain ⟨r2, q2, f2, lb2, hst⟩ := HB.out
      exact ⟨rfl, hst.bel⟩

end Go.Proofs.Ytfljnfmocmhhdaa
