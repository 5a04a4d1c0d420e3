/-
Ears.Look: directories of a law's own, which write down what is asked of them.
-/
import Derived.Test.YtpombeiabgbpiaaDoorWEarW
import Derived.Test.YtpombeiabgbpiaaDoorWKit
import Derived.Test.YtpombeiabgbpiaaDoorWPlain
import Derived.BigQuiet
import Derived.Deep.CutRange
namespace Go.Proofs.YtpombeiabgbpiaaDoor.Ear
open Go.RowKit Go.Proofs.YtpombeiabgbpiaaDoor

/-- what an ask looks like in the list -/
def askE (q : Int × ByteArray) : EdgeV := (q.1, q.2, 0, false)
def askOk (q : Int × ByteArray) : Prop := (Lit.int .i64 q.1).wf = true ∧ q.2.size ≤ maxLen
/-- ears at p: they answer from the edges, and have written down what was asked -/
def EarT (B p : Nat) (vE : Value) (es : List EdgeV) (qs : List (Int × ByteArray)) (W : World) : Prop :=
  ∃ vA, W.heap[p]? = some (.cells #[vE, vA] 92 (0, 0)) ∧ W.ownsRow B 44 4 vA qs.length (edgesC (qs.map askE)) ∧ vA.ownBlock ≠ some p ∧ B ≤ p ∧ RdE W vE es ∧ (∀ b off n c, vE = .slice (some ⟨b, off, none⟩) n c → 0 < es.length → b < B) ∧ ∀ q ∈ qs, askOk q
/-- the blocks that they lie in -/
def earB (p : Nat) (vE : Value) (es : List EdgeV) (W : World) (b : Nat) : Prop :=
  b = p ∨ (∃ vA, W.heap[p]? = some (.cells #[vE, vA] 92 (0, 0)) ∧ vA.ownBlock = some b) ∨ (0 < es.length ∧ ∃ off n c, vE = .slice (some ⟨b, off, none⟩) n c)
theorem RdE.chg0 {D : Nat → Prop} {w w' : World} {v : Value} {l : List EdgeV} (h : RdE w v l) (hc : Chg D w w') (hn : ∀ b off n c, v = .slice (some ⟨b, off, none⟩) n c → 0 < l.length → ¬ D b) : RdE w' v l := by
  obtain ⟨A, c, rfl, h1, h2, h4, h3⟩ := h
  refine ⟨A, c, rfl, h1, h2, h4, fun h0 => ?_⟩
  obtain ⟨b, off, rfl, hb, hh⟩ := h3 h0
  exact ⟨b, off, rfl, Nat.lt_of_lt_of_le hb hc.size, fun i s hs => range_chg hc (hh i s hs) (hn b off _ c rfl h0)⟩
theorem EarT.keep {B p : Nat} {vE : Value} {es : List EdgeV} {qs : List (Int × ByteArray)} {W W' : World} (h : EarT B p vE es qs W) (hk : ∀ b, earB p vE es W b → W'.heap[b]? = W.heap[b]?) : EarT B p vE es qs W' ∧ ∀ b, earB p vE es W' b ↔ earB p vE es W b := by
  have hp := hk p (.inl rfl)
  obtain ⟨vA, h1, h2, h3, h4, h5, h6, h7⟩ := h
  refine ⟨⟨vA, hp.trans h1, ⟨h2.1, ?_⟩, h3, h4, ?_, h6, h7⟩, fun b => ?_⟩
  · rcases h2.2 with h | ⟨g, cap, cur, hv, hb, hg, r⟩
    · exact .inl h
    · exact .inr ⟨g, cap, cur, hv, hb, (hk g (.inr (.inl ⟨vA, h1, by rw [hv]; rfl⟩))).trans hg, r⟩
  · obtain ⟨A, c, rfl, a1, a2, a4, a3⟩ := h5
    refine ⟨A, c, rfl, a1, a2, a4, fun h0 => ?_⟩
    obtain ⟨b, off, rfl, hb, hh⟩ := a3 h0
    have hkb := hk b (.inr (.inr ⟨h0, _, _, _, rfl⟩))
    refine ⟨b, off, rfl, ?_, fun i s hs j v hv => ?_⟩
    · rw [Array.getElem?_eq_getElem hb] at hkb
      exact (Array.getElem?_eq_some_iff.1 hkb).1
    · rw [← hh i s hs j v hv]
      exact World.cell?_of_block hkb
  · unfold earB
    rw [hp]
theorem EarT.lt {B p : Nat} {vE : Value} {es : List EdgeV} {qs : List (Int × ByteArray)} {W : World} (h : EarT B p vE es qs W) {b : Nat} (hb : earB p vE es W b) : b < W.heap.size := by
  obtain ⟨vA, h1, h2, h3, h4, h5, h6, h7⟩ := h
  rcases hb with rfl | ⟨vA', k1, k2⟩ | ⟨h0, off, n, c, e⟩
  · exact heap_lt h1
  · rw [h1] at k1
    injection k1 with k1
    injection k1 with k1
    have : vA = vA' := by simpa using k1
    subst this
    exact (h2.lt _ k2).2
  · obtain ⟨A, c', e', _, _, _, a3⟩ := h5
    obtain ⟨b', off', rfl, hb, _⟩ := a3 h0
    rw [e'] at e
    injection e with e
    injection e with e
    injection e with e
    omega
theorem EarT.below {B p : Nat} {vE : Value} {es : List EdgeV} {qs : List (Int × ByteArray)} {W W' : World} (h : EarT B p vE es qs W) (hb : Below W.heap.size W W') : EarT B p vE es qs W' ∧ ∀ b, earB p vE es W' b ↔ earB p vE es W b :=
  h.keep (fun b hb' => hb.block b (h.lt hb'))
/-- what looking leaves behind -/
def EarPost (B p : Nat) (vE : Value) (es : List EdgeV) (qs : List (Int × ByteArray)) (w w' : World) : Prop :=
  EarT B p vE es qs w' ∧ Chg (fun b => B ≤ b ∧ earB p vE es w b) w w' ∧ ∀ b, earB p vE es w' b → earB p vE es w b ∨ w.heap.size ≤ b
theorem EarPost.below {B p : Nat} {vE : Value} {es : List EdgeV} {qs : List (Int × ByteArray)} {w W W' : World} (h : EarPost B p vE es qs w W) (hb : Below W.heap.size W W') : EarPost B p vE es qs w W' := by
  obtain ⟨h1, h2⟩ := h.1.below hb
  exact ⟨h1, h.2.1.trans (Chg.of_below (fun _ => False) hb) (fun _ _ h => h.elim), fun b k => h.2.2 b ((h2 b).1 k)⟩
/-- behind the append and its store -/
theorem EarT.ask {B p : Nat} {vE vA v' : Value} {es : List EdgeV} {qs : List (Int × ByteArray)} {w w7 : World} {d : Int} {s : ByteArray} {o : Obj} (h : EarT B p vE es qs w) (h1 : w.heap[p]? = some (.cells #[vE, vA] 92 (0, 0))) (hq : askOk (d, s))
    (hown : w7.ownsRow B 44 4 v' (qs.length + 1) (edgesC (qs.map askE) ++ [.int .i64 d, .string s, .int .i64 0, .bool false])) (hg : (w.alloc o).grownBy w7 vA.ownBlock) (hloc : v'.ownBlock = vA.ownBlock ∨ v'.ownBlock = some (w.alloc o).heap.size) :
    w7.heap[p]? = some (.cells #[vE, vA] 92 (0, 0)) ∧ EarPost B p vE es (qs ++ [(d, s)]) w (w7.setCell ⟨p, 1, none⟩ v') := by
  obtain ⟨vA', h1', h2, h3, h4, h5, h6, h7⟩ := h
  obtain rfl : vA = vA' := by
    rw [h1] at h1'
    injection h1' with h
    injection h with h
    simpa using h
  have hlt := heap_lt h1
  have hch : Chg (fun x => vA.ownBlock = some x) w w7 := ((Chg.refl (fun x => vA.ownBlock = some x) w).alloc o).grown hg (fun k e _ => e)
  have hp7 := hch.heap h1 h3
  have hp8 : (w7.setCell ⟨p, 1, none⟩ v').heap[p]? = some (.cells #[vE, v'] 92 (0, 0)) := heap_setCell_same _ _ 1 _ _ v' hp7
  have hnp : v'.ownBlock ≠ some p := by
    rcases hloc with e | e
    · rw [e]; exact h3
    · rw [e]; intro k; have := Option.some.inj k; simp at this; omega
  have hc8 : Chg (fun x => x = p ∨ vA.ownBlock = some x) w (w7.setCell ⟨p, 1, none⟩ v') := (hch.mono (fun _ _ e => .inr e)).setCell (p := ⟨p, 1, none⟩) (fun _ => .inl rfl) _
  have hBg : ∀ g, vA.ownBlock = some g → B ≤ g := fun g e => (h2.lt g e).1
  refine ⟨hp7, ⟨v', hp8, ?_, hnp, h4, RdE.chg0 h5 hc8 (fun b off n c e h0 => ?_), h6, ?_⟩, hc8.mono (fun x _ hx => ?_), fun b hb => ?_⟩
  · rw [List.length_append, List.map_append]
    have : edgesC (qs.map askE ++ [(d, s)].map askE) = edgesC (qs.map askE) ++ [.int .i64 d, .string s, .int .i64 0, .bool false] := by simp [edgesC, askE, EdgeV.cells]
    rw [this]
    exact own_chg hown ((Chg.refl (fun x => x = p) w7).setCell (p := ⟨p, 1, none⟩) (fun _ => rfl) _) (fun g e h => hnp (h ▸ e))
  · have := h6 b off n c e h0
    rintro (rfl | k)
    · omega
    · have := hBg b k; omega
  · intro q hq'
    rcases List.mem_append.1 hq' with h | h
    · exact h7 q h
    · rw [List.mem_singleton.1 h]; exact hq
  · rcases hx with rfl | k
    · exact ⟨h4, .inl rfl⟩
    · exact ⟨hBg x k, .inr (.inl ⟨vA, h1, k⟩)⟩
  · rcases hb with rfl | ⟨vA', k1, k2⟩ | k
    · exact .inl (.inl rfl)
    · rw [hp8] at k1
      injection k1 with k1
      injection k1 with k1
      have : v' = vA' := by simpa using k1
      subst this
      rcases hloc with e | e
      · exact .inl (.inr (.inl ⟨vA, h1, by rw [← e]; exact k2⟩))
      · rw [e] at k2
        have := Option.some.inj k2
        simp at this
        exact .inr (by omega)
    · exact .inl (.inr (.inr k))

set_option maxRecDepth 100000 in
set_option maxHeartbeats 4000000 in
/-- Look, of ears -/
theorem earLook_any (w : World) (B p : Nat) (vE : Value) (es : List EdgeV) (qs : List (Int × ByteArray)) (hJ : EarT B p vE es qs w) (d : Int) (s : ByteArray) (hd : (Lit.int .i64 d).wf = true) (hs : s.size ≤ maxLen) (hql : qs.length ≤ 300) (hBw : B ≤ w.heap.size) :
    Calls Tryd.prog 87 #[.pointer (some ⟨p, 0, none⟩), .int .i64 d, .string s] w fun e w' => e = .returned (.tuple #[.int .i64 (lookT es d s).1, .bool (lookT es d s).2]) ∧ EarPost B p vE es (qs ++ [(d, s)]) w w' := by
  obtain ⟨i0, hi, hz0, hz1, hz2⟩ := info_parts info44
  have HJ := Lib.hid hJ
  obtain ⟨vA, h1, h2, h3, h4, h5, h6, h7⟩ := hJ
  obtain ⟨A, c, rfl⟩ := own_form h2
  obtain ⟨Ae, ce, rfl, a1, a2, a4, a3⟩ := h5
  have hcm : ce ≤ 9223372036854775807 := maxLen_eq ▸ a2
  obtain ⟨n, hn⟩ : ∃ n, es.length = n := ⟨_, rfl⟩
  have HN := Lib.hid hn
  have H1 := Lib.hid h1
  have H2 := Lib.hid h2
  have HQ := Lib.hid (show askOk (d, s) from ⟨hd, hs⟩)
  obtain ⟨R, hR⟩ : ∃ R, lookT es d s = R := ⟨_, rfl⟩
  have HR := Lib.hid hR
  rw [hR]
  rw [hn] at h1 a1 H1 HJ ⊢
  have d0 : w.cell? ⟨p, 0, none⟩ = some (.slice Ae n ce) := by rw [cell_of_row _ _ _ _ _ _ h1]; rfl
  have d1 : w.cell? ⟨p, 1, none⟩ = some (.slice A qs.length c) := by rw [cell_of_row _ _ _ _ _ _ h1]; rfl
  have f1 : w.frozen? ⟨p, 1, none⟩ = false := frozen_of_row _ _ 1 _ _ h1
  have hl := heap_lt h1
  clear h1 h2 h3 h4 h6 h7 hd hs hn hR a2 a3 a4
  obtain ⟨R1, R2⟩ := R
  simp only
  go_enter Tryd.func87, Tryd.ntmps87
  go_upto_region 2 with (at_builtin; refine wpList_append_own_at _ rfl _ _ 35 rfl B 44 i0 (.agg #[.int .i64 0, .string ByteArray.empty, .int .i64 0, .bool false]) 4 40 Tryd.underlying35 hi hz0 hz1 hz2 rfl (by decide) (.slice A qs.length c) qs.length _ rfl (H2.out.alloc _) ⟨w.heap.size, 0, none⟩ 1 1 [.int .i64 d, .string s, .int .i64 0, .bool false] rfl rfl (World.news_of_block (cs := #[.int .i64 d, .string s, .int .i64 0, .bool false]) (t := 44) (fr := (0, 0)) (heap_alloc_new w _)) (by simp [Value.oneCell']) (by rw [maxLen_eq]; omega) (by omega) (by simp; omega) ?_; intro v7 w7 hown7 hg7 _ hloc7; obtain ⟨A7, c7, rfl⟩ := own_form hown7; have HA7 := Lib.hid (HJ.out.ask H1.out HQ.out hown7 hg7 hloc7); have hp7 := HA7.out.1; have e0 : w7.cell? ⟨p, 0, none⟩ = some (.slice Ae n ce) := (by rw [cell_of_row _ _ _ _ _ _ hp7]; rfl); have e1 : w7.cell? ⟨p, 1, none⟩ = some (.slice A qs.length c) := (by rw [cell_of_row _ _ _ _ _ _ hp7]; rfl); have ef : w7.frozen? ⟨p, 1, none⟩ = false := frozen_of_row _ _ 1 _ _ hp7; have el := heap_lt hp7; clear hown7 hg7 hloc7 hp7)
  obtain ⟨w8, hw8⟩ : ∃ X, w7.setCell ⟨p, 1, none⟩ (.slice A7 (qs.length + 1) c7) = X := ⟨_, rfl⟩
  have hp8 : w8.heap[p]? = some (.cells #[.slice Ae n ce, .slice A7 (qs.length + 1) c7] 92 (0, 0)) := by rw [← hw8]; exact heap_setCell_same _ _ 1 _ _ _ HA7.out.1
  rw [hw8] at HA7 ⊢
  have HP8 := Lib.hid HA7.out.2
  obtain ⟨_, _, _, _, _, h5, _⟩ := HP8.out.1
  obtain ⟨A', c', e', _, _, _, h3⟩ := h5
  injection e' with e2 e3 e4
  subst e2 e4
  have HR8 := Lib.hid h3
  have HH8 := Lib.hid hp8
  have e0 : w8.cell? ⟨p, 0, none⟩ = some (.slice Ae n ce) := by rw [cell_of_row _ _ _ _ _ _ hp8]; rfl
  have el := heap_lt hp8
  clear hw8 hp8 HA7 H1 H2 HQ d0 d1 f1 hl h3 e3
  go_wp2_with fail
  go_loopw [8] (fun v8 wr => ∃ m : Nat, m ≤ n ∧ v8 = .int .i64 ((m : Int) - 1) ∧ Hid (lookT (es.take m) d s = (R1, R2)) ∧ Hid (Below w8.heap.size w8 wr)) (fun v8 _ => (intOf v8 + 1).toNat)
  case atStart => exact ⟨n, Nat.le_refl _, by go_num, by rw [List.take_of_length_le (by rw [HN.out]; exact Nat.le_refl _)]; exact HR, Lib.hid (Below.refl _ _)⟩
  case round =>
    obtain ⟨m, hm, rfl, HL, HX⟩ := hrel
    have hp9 := (HX.out.block p el).trans HH8.out
    have d0 : wr.cell? ⟨p, 0, none⟩ = some (.slice Ae n ce) := by rw [cell_of_row _ _ _ _ _ _ hp9]; rfl
    have hl := heap_lt hp9
    clear hp9
    rcases Nat.eq_zero_or_pos m with rfl | h0
    · obtain ⟨rfl, rfl⟩ : R1 = 0 ∧ R2 = false := by
        have := HL.out
        simp [lookT] at this
        exact ⟨this.1.symm, this.2⟩
      go_wp2_with fail
      go_returns
      exact ⟨rfl, HP8.out.below HX.out⟩
    · obtain ⟨k, rfl⟩ : ∃ k, m = k + 1 := ⟨m - 1, by omega⟩
      obtain ⟨g, off, rfl, hgw, hh⟩ := HR8.out (by rw [HN.out]; omega)
      obtain ⟨⟨x1, x2, x3, x4⟩, hs⟩ : ∃ x, es[k]? = some x := ⟨_, List.getElem?_eq_getElem (by rw [HN.out]; omega)⟩
      have r := range_chg (Chg.of_below (fun _ => False) HX.out) (hh k _ hs) (fun h => h)
      have c0 : wr.cell? ⟨g, off + k * 4, none⟩ = some (.int .i64 x1) := r 0 _ rfl
      have c1 : wr.cell? ⟨g, off + k * 4 + 1, none⟩ = some (.string x2) := r 1 _ rfl
      have c2 : wr.cell? ⟨g, off + k * 4 + 2, none⟩ = some (.int .i64 x3) := r 2 _ rfl
      have c3 : wr.cell? ⟨g, off + k * 4 + 3, none⟩ = some (.bool x4) := r 3 _ rfl
      have hT : lookT (es.take (k + 1)) d s = if 1 ≤ x3 ∧ x1 = d ∧ x2 = s then (x3, x4) else lookT (es.take k) d s := by
        rw [List.take_add_one, hs]; exact lookT_snoc _ _ _ _
      have HL2 := HL.out
      rw [hT] at HL2
      have HL3 := Lib.hid HL2
      have hk1 : ((k + 1 : Nat) : Int) - 1 = (k : Int) := by omega
      rw [hk1]
      have HX2 : Hid (∀ q, Below w8.heap.size w8 ((wr.alloc (.cells #[.int .i64 x1, .string x2, .int .i64 x3, .bool x4] 44)).drewN q)) := Lib.hid (fun q => Below.drewN (HX.out.alloc (by have := HX.out.size; exact this) _) q)
      have HX3 : Hid (Below w8.heap.size w8 (wr.alloc (.cells #[.int .i64 x1, .string x2, .int .i64 x3, .bool x4] 44))) := Lib.hid (HX.out.alloc (by have := HX.out.size; exact this) _)
      clear hh hs r hT HL HL2
      by_cases hx1 : x1 = d
      · subst hx1
        by_cases hx2 : x2 = s
        · subst hx2
          by_cases hx3 : 1 ≤ x3
          · obtain ⟨rfl, rfl⟩ : R1 = x3 ∧ R2 = x4 := by
              have := HL3.out
              rw [if_pos ⟨hx3, rfl, rfl⟩] at this
              injection this with h1 h2
              exact ⟨h1.symm, h2.symm⟩
            have q0 : (x2.toList == x2.toList) = true := by simp
            go_wp2_with fail
            go_quiet (fail)
            have HX4 := Lib.hid (HP8.out.below (HX2.out nq))
            generalize (wr.alloc (.cells #[.int .i64 x1, .string x2, .int .i64 R1, .bool R2] 44)).drewN nq = wr2 at *
            go_wp2_with fail
            go_returns
            exact ⟨rfl, HX4.out⟩
          · have HL4 := Lib.hid (by have := HL3.out; rw [if_neg (fun h => hx3 h.1)] at this; exact this)
            have q0 : (x2.toList == x2.toList) = true := by simp
            go_wp2_with fail
            go_roundw
            case rel => exact ⟨k, by omega, by go_num, HL4, HX3⟩
            case measure => simp [intOf]
        · have HL4 := Lib.hid (by have := HL3.out; rw [if_neg (fun h => hx2 h.2.2)] at this; exact this)
          have q0 : (x2.toList == s.toList) = false := by
            rw [beq_eq_false_iff_ne]
            intro e
            rw [toList_bys, toList_bys] at e
            exact hx2 (bys_inj e)
          go_wp2_with fail
          go_roundw
          case rel => exact ⟨k, by omega, by go_num, HL4, HX3⟩
          case measure => simp [intOf]
      · have HL4 := Lib.hid (by have := HL3.out; rw [if_neg (fun h => hx1 h.2.1)] at this; exact this)
        go_wp2_with fail
        go_roundw
        case rel => exact ⟨k, by omega, by go_num, HL4, HX3⟩
        case measure => simp [intOf]

/-- ears as directories -/
theorem ear_dirs (B p : Nat) (vE : Value) (es : List EdgeV) (hl : ∀ e ∈ es, e.Ok) : DirsAt 87 ⟨p, 0, none⟩ (lookT es) (fun qs W => EarT B p vE es qs W) (earB p vE es) (fun b => B ≤ b) where
  look qs W d s hq h hd hs := earLook_any W B p vE es qs h d s hd hs hq (by have := heap_lt h.choose_spec.1; have := h.choose_spec.2.2.2.1; omega)
  lt qs W b h hb := h.lt hb
  keep qs W W' h hk := h.keep hk
  wf := lookT_wf hl

end Go.Proofs.YtpombeiabgbpiaaDoor.Ear
