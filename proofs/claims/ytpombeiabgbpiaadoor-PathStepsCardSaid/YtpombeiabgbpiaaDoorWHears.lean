/-
hears: Resolve and Parent ask a law's own directories just what lies on the way, and answer what they answer of a table.
-/
import Derived.Test.YtpombeiabgbpiaaDoorWStep
import Derived.Test.YtpombeiabgbpiaaDoorWSameE
namespace Go.Proofs.YtpombeiabgbpiaaDoor
open Go.RowKit

/-- ears as they are made -/
theorem ear_start {B p : Nat} {v : Value} {es : List EdgeV} {w : World} (h0 : w.heap[p]? = some (.cells #[v, .slice none 0 0] 92 (0, 0))) (hB : B ≤ p) (hE : RdE w v es) (hlow : ∀ b off n c, v = .slice (some ⟨b, off, none⟩) n c → 0 < es.length → b < B) :
    Ear.EarT B p v es [] w ∧ ∀ b, B ≤ b → Ear.earB p v es w b → b = p := by
  refine ⟨⟨_, h0, World.ownsRow_nil _ _ _ _, by simp [Value.ownBlock], hB, hE, hlow, by simp⟩, fun b hb h => ?_⟩
  rcases h with rfl | ⟨vA, k1, k2⟩ | ⟨h0', off, n, c, e⟩
  · rfl
  · rw [h0] at k1
    injection k1 with k1
    injection k1 with k1
    have : (.slice none 0 0 : Value) = vA := by simpa using k1
    subst this
    simp [Value.ownBlock] at k2
  · have := hlow _ _ _ _ e h0'
    omega
/-- what was asked of ears -/
def HeardT (p : Nat) (v : Value) (q : List (Int × ByteArray)) (W : World) : Prop :=
  ∃ A c, W.heap[p]? = some (.cells #[v, .slice A q.length c] 92 (0, 0)) ∧ RdE W (.slice A q.length c) (q.map Ear.askE)
theorem HeardT.below {p : Nat} {v : Value} {q : List (Int × ByteArray)} {W W' : World} (h : HeardT p v q W) (hb : Below W.heap.size W W') : HeardT p v q W' := by
  obtain ⟨A, c, h1, h2⟩ := h
  exact ⟨A, c, (hb.block _ (heap_lt h1)).trans h1, h2.below hb⟩
theorem ear_heard {B p : Nat} {v : Value} {es : List EdgeV} {q : List (Int × ByteArray)} {W : World} (h : Ear.EarT B p v es q W) : HeardT p v q W := by
  obtain ⟨vA, h1, h2, _, _, _, _, h7⟩ := h
  obtain ⟨A, c, rfl⟩ := own_form h2
  exact ⟨A, c, h1, by
    have := RdE.of_own (l := q.map Ear.askE) (by rw [List.length_map]; exact h2) (fun e he => by
      obtain ⟨x, hx, rfl⟩ := List.mem_map.1 he
      exact ⟨(h7 x hx).1, (h7 x hx).2, (by decide : (Lit.int .i64 0).wf = true)⟩)
    exact this⟩

theorem ear_resolve (w : World) (p B : Nat) (v : Value) (es : List EdgeV) (hok : ∀ e ∈ es, e.Ok) (h0 : w.heap[p]? = some (.cells #[v, .slice none 0 0] 92 (0, 0))) (hB : B ≤ p) (hE : RdE w v es)
    (hlow : ∀ b off n c, v = .slice (some ⟨b, off, none⟩) n c → 0 < es.length → b < B) (u : Value) (l : List ByteArray) (sl : Bool) (hr : RdS w u l) (hub : ∀ b off n c, u = .slice (some ⟨b, off, none⟩) n c → 0 < l.length → b < B) (hlen : l.length ≤ 300) (hnm : ∀ s ∈ l, s.size ≤ maxLen) :
    Calls Tryd.prog 23 #[.iface 90 (.pointer (some ⟨p, 0, none⟩)), .agg #[u, .bool sl]] w fun e w' => e = .returned (.tuple #[.int .i64 (resF (lookT es) l sl).1, .bool (resF (lookT es) l sl).2.1, .int .i64 (resF (lookT es) l sl).2.2]) ∧ HeardT p v (wkA (lookT es) rootW l) w' ∧ Chg (fun x => x = p) w w' := by
  obtain ⟨hs, hq⟩ := ear_start h0 hB hE hlow
  refine (Ear.resolve_any w ⟨p, 0, none⟩ (lookT es) _ _ _ (Ear.ear_dirs B p v es hok) [] hs rfl u l sl hr (fun b off n c e h0 h => Nat.not_le_of_lt (hub b off n c e h0) h.1) hlen hnm).mono ?_
  rintro e w' ⟨rfl, hJ, hC, _⟩
  exact ⟨rfl, ear_heard hJ, hC.mono (fun x _ hx => hq x hx.1 hx.2)⟩
theorem ear_parent (w : World) (p B : Nat) (v : Value) (es : List EdgeV) (hok : ∀ e ∈ es, e.Ok) (h0 : w.heap[p]? = some (.cells #[v, .slice none 0 0] 92 (0, 0))) (hB : B ≤ p) (hE : RdE w v es)
    (hlow : ∀ b off n c, v = .slice (some ⟨b, off, none⟩) n c → 0 < es.length → b < B) (u : Value) (l : List ByteArray) (sl : Bool) (hr : RdS w u l) (hub : ∀ b off n c, u = .slice (some ⟨b, off, none⟩) n c → 0 < l.length → b < B) (hlen : l.length ≤ 300) (hnm : ∀ s ∈ l, s.size ≤ maxLen) :
    Calls Tryd.prog 27 #[.iface 90 (.pointer (some ⟨p, 0, none⟩)), .agg #[u, .bool sl]] w fun e w' => e = .returned (.tuple #[.int .i64 (parF (lookT es) l).1, .string (parF (lookT es) l).2.1, .int .i64 (parF (lookT es) l).2.2]) ∧ HeardT p v (parA (lookT es) l) w' ∧ Chg (fun x => x = p) w w' := by
  obtain ⟨hs, hq⟩ := ear_start h0 hB hE hlow
  refine (Ear.parent_any w ⟨p, 0, none⟩ (lookT es) _ _ _ (Ear.ear_dirs B p v es hok) [] hs rfl u l sl hr (fun b off n c e h0 h => Nat.not_le_of_lt (hub b off n c e h0) h.1) hlen hnm).mono ?_
  rintro e w' ⟨rfl, hJ, hC, _⟩
  exact ⟨rfl, ear_heard hJ, hC.mono (fun x _ hx => hq x hx.1 hx.2)⟩

/-- the facts that stay -/
structure HrS (t b : Nat) (es : List EdgeV) (v u va : Value) (l : List ByteArray) (sl : Bool) (ak : List EdgeV) (W0 W : World) : Prop where
  lw : LwS t b es u l sl W
  ed : RdE W v es
  ra : RdE W va ak
  bel : Below W0.heap.size W0 W
theorem HrS.below {t b : Nat} {es : List EdgeV} {v u va : Value} {l : List ByteArray} {sl : Bool} {ak : List EdgeV} {W0 W W' : World} (h : HrS t b es v u va l sl ak W0 W) (hb : Below W.heap.size W W') : HrS t b es v u va l sl ak W0 W' :=
  ⟨h.lw.below hb, h.ed.below hb, h.ra.below hb, below_lift h.bel hb⟩

set_option maxRecDepth 100000 in
set_option maxHeartbeats 4000000 in
theorem hears_any (W : World) (t : Nat) (v u va : Value) (es : List EdgeV) (l : List ByteArray) (sl : Bool) (hE : RdE W v es) (ht : TabT W t es) (hr : RdS W u l) (hnm : ∀ s ∈ l, s.size ≤ maxLen) (hlen : l.length ≤ 300) (ha : RdE W va ((wkA (lookT es) rootW l).map Ear.askE)) :
    Calls Tryd.prog 26 #[v, .pointer (some ⟨t, 0, none⟩), .agg #[u, .bool sl], va] W fun e W' => e = .returned (.bool true) ∧ Below W.heap.size W W' := by
  have hes : ∀ e ∈ es, e.Ok := by obtain ⟨_, _, _, _, _, ho, _⟩ := hE; exact ho
  have hlow : ∀ b off n c, v = .slice (some ⟨b, off, none⟩) n c → 0 < es.length → b < W.heap.size := by
    obtain ⟨A, c', e, _, _, _, h3⟩ := hE
    intro b off n c e1 h0
    obtain ⟨b', off', e2, hb, _⟩ := h3 h0
    rw [e, e2] at e1
    injection e1 with e1
    injection e1 with e1
    injection e1 with e1
    omega
  have hub : ∀ b off n c, u = .slice (some ⟨b, off, none⟩) n c → 0 < l.length → b < W.heap.size := by
    obtain ⟨A, c', e, _, _, h3⟩ := hr
    intro b off n c e1 h0
    obtain ⟨b', off', e2, hb, _⟩ := h3 h0
    rw [e, e2] at e1
    injection e1 with e1
    injection e1 with e1
    injection e1 with e1
    omega
  obtain ⟨Ae, ce, rfl, hE0⟩ := hE
  have hE : RdE W (.slice Ae es.length ce) es := ⟨Ae, ce, rfl, hE0⟩
  have hlen1 : l.length + 1 ≤ 8796093022208 := by omega
  obtain ⟨q, hq⟩ : ∃ q, wkA (lookT es) rootW l = q := ⟨_, rfl⟩
  have HQ := Lib.hid hq
  rw [hq] at ha
  obtain ⟨Aa, ca, rfl, a1, a2, a4, a3⟩ := ha
  have ha : RdE W (.slice Aa (q.map Ear.askE).length ca) (q.map Ear.askE) := ⟨Aa, ca, rfl, a1, a2, a4, a3⟩
  rw [List.length_map] at ha a1 a3 ⊢
  have hcm : ca ≤ 9223372036854775807 := maxLen_eq ▸ a2
  have HAA := Lib.hid a3
  -- the three boxes
  obtain ⟨w1, hw1⟩ : ∃ X, W.alloc (.cells #[u, .bool sl] 25) = X := ⟨_, rfl⟩
  have hb1 : Below W.heap.size W w1 := hw1 ▸ (Below.refl _ _).alloc (Nat.le_refl _) _
  have hs1 : w1.heap.size = W.heap.size + 1 := by rw [← hw1]; simp
  have hS1 : HrS t W.heap.size es (.slice Ae es.length ce) u (.slice Aa q.length ca) l sl (q.map Ear.askE) W w1 := ⟨⟨ht.below hb1, by rw [← hw1]; exact heap_alloc_new W _, hr.below hb1⟩, hE.below hb1, ha.below hb1, hb1⟩
  obtain ⟨w3, hw3⟩ : ∃ X, (w1.alloc (.cells #[.slice Ae es.length ce, .slice none 0 0] 92)).alloc (.cells #[.slice Ae es.length ce, .slice none 0 0] 92) = X := ⟨_, rfl⟩
  have hp1 : w3.heap[W.heap.size + 1]? = some (.cells #[.slice Ae es.length ce, .slice none 0 0] 92 (0, 0)) := by
    have h := heap_alloc_new w1 (.cells #[.slice Ae es.length ce, .slice none 0 0] 92)
    rw [hs1] at h
    rw [← hw3]
    exact (((Below.refl (w1.alloc (.cells #[.slice Ae es.length ce, .slice none 0 0] 92)).heap.size _).alloc (Nat.le_refl _) _).block _ (heap_lt h)).trans h
  have hp2 : w3.heap[W.heap.size + 1 + 1]? = some (.cells #[.slice Ae es.length ce, .slice none 0 0] 92 (0, 0)) := by
    have h := heap_alloc_new (w1.alloc (.cells #[.slice Ae es.length ce, .slice none 0 0] 92)) (.cells #[.slice Ae es.length ce, .slice none 0 0] 92)
    rw [hw3] at h
    simpa [hs1] using h
  have hb3 : Below w1.heap.size w1 w3 := hw3 ▸ ((Below.refl _ _).alloc (Nat.le_refl _) _).alloc (by simp) _
  have hs3 := hS1.below hb3
  have HK : Hid (∀ X, Chg (fun x => x = W.heap.size + 1 ∨ x = W.heap.size + 1 + 1) w3 X → HrS t W.heap.size es (.slice Ae es.length ce) u (.slice Aa q.length ca) l sl (q.map Ear.askE) W X) := Lib.hid (fun X hX => hS1.below (hb3.trans (hX.below _ hb3.size (fun b hb h => by omega))))
  have HR1 := Lib.hid (ear_resolve w3 (W.heap.size + 1) W.heap.size (.slice Ae es.length ce) es hes hp1 (by omega) hs3.ed hlow u l sl hs3.lw.rd hub hlen hnm)
  have HP2 : Hid (∀ X, Chg (fun x => x = W.heap.size + 1) w3 X → Calls Tryd.prog 27 #[.iface 90 (.pointer (some ⟨W.heap.size + 1 + 1, 0, none⟩)), .agg #[u, .bool sl]] X fun e w' => e = .returned (.tuple #[.int .i64 (parF (lookT es) l).1, .string (parF (lookT es) l).2.1, .int .i64 (parF (lookT es) l).2.2]) ∧ HeardT (W.heap.size + 1 + 1) (.slice Ae es.length ce) (parA (lookT es) l) w' ∧ Chg (fun x => x = W.heap.size + 1 + 1) X w') := Lib.hid (fun X hX => by
    have hk := HK.out X (hX.mono (fun _ _ h => .inl h))
    exact ear_parent X (W.heap.size + 1 + 1) W.heap.size (.slice Ae es.length ce) es hes (hX.heap hp2 (by omega)) (by omega) hk.ed hlow u l sl hk.lw.rd hub hlen hnm)
  have HRT : Hid (∀ X, HrS t W.heap.size es (.slice Ae es.length ce) u (.slice Aa q.length ca) l sl (q.map Ear.askE) W X → Calls Tryd.prog 23 #[.iface 36 (.pointer (some ⟨t, 0, none⟩)), .agg #[u, .bool sl]] X fun e W' => e = .returned (.tuple #[.int .i64 (resF (lookT es) l sl).1, .bool (resF (lookT es) l sl).2.1, .int .i64 (resF (lookT es) l sl).2.2]) ∧ Below X.heap.size X W') := Lib.hid (fun X h => (h.lw.resolve hes hlen1 hnm).mono (fun e W' h => ⟨h.1, h.2.2⟩))
  have HPT : Hid (∀ X, HrS t W.heap.size es (.slice Ae es.length ce) u (.slice Aa q.length ca) l sl (q.map Ear.askE) W X → Calls Tryd.prog 27 #[.iface 36 (.pointer (some ⟨t, 0, none⟩)), .agg #[u, .bool sl]] X fun e W' => e = .returned (.tuple #[.int .i64 (parF (lookT es) l).1, .string (parF (lookT es) l).2.1, .int .i64 (parF (lookT es) l).2.2]) ∧ Below X.heap.size X W') := Lib.hid (fun X h => (h.lw.parent hes hlen1 hnm).mono (fun e W' h => ⟨h.1, h.2.2⟩))
  have HPA := Lib.hid (par_asks (lookT es) l)
  rw [hq] at HR1 HPA
  obtain ⟨⟨r1, r2, r3⟩, hR⟩ : ∃ R, resF (lookT es) l sl = R := ⟨_, rfl⟩
  rw [hR] at HR1 HRT
  obtain ⟨⟨g1, g2, g3⟩, hP⟩ : ∃ P, parF (lookT es) l = P := ⟨_, rfl⟩
  rw [hP] at HP2 HPT HPA
  obtain ⟨qp, hqp⟩ : ∃ q, parA (lookT es) l = q := ⟨_, rfl⟩
  rw [hqp] at HP2 HPA
  have c0 := hs3.lw.c0
  have c1 := hs3.lw.c1
  have hz2 : (r2 != r2) = false := by cases r2 <;> rfl
  have hz3 : (g2.toList == g2.toList) = true := by simp
  simp only at HR1 HP2 HRT HPT HPA
  clear hE hE0 ht hr hnm hlen ha hes hlow hub hlen1 hq a2 a4 a3 hb1 hS1 hp1 hp2 hb3 hs3 hR hP hqp
  go_enter Tryd.func26, Tryd.ntmps26
  go_upto_region 3 with fail
  clear hw1 hw3 hs1
  go_wp2_with fail
  refine HR1.out.mono ?_
  rintro e w4 ⟨rfl, hh4, hc4⟩
  have HH4 := Lib.hid hh4
  have HC4 := Lib.hid hc4
  have HS4 := Lib.hid (HK.out w4 (hc4.mono (fun _ _ h => .inl h)))
  have c0 := HS4.out.lw.c0
  have c1 := HS4.out.lw.c1
  clear hh4 hc4 HR1
  go_wp2_with fail
  refine (HRT.out w4 HS4.out).mono ?_
  rintro e w5 ⟨rfl, hb5⟩
  have HC5 : Hid (Chg (fun x => x = W.heap.size + 1) w3 w5) := Lib.hid (HC4.out.trans (Chg.of_below (fun _ => False) hb5) (fun _ _ h => h.elim))
  have HS5 := Lib.hid (HS4.out.below hb5)
  obtain ⟨A5, c5, h5, hr5⟩ := HH4.out.below hb5
  have HR5 := Lib.hid hr5
  have d1 : w5.cell? ⟨W.heap.size + 1, 1, none⟩ = some (.slice A5 q.length c5) := by rw [cell_of_row _ _ _ _ _ _ h5]; rfl
  clear hb5 HC4 HS4 HH4 HRT h5 hr5 c0 c1
  go_wp2_with fail
  refine (sameEdges_any w5 _ _ (q.map Ear.askE) HR5.out HS5.out.ra).mono ?_
  rintro e w6 ⟨rfl, hb6⟩
  have HC6 : Hid (Chg (fun x => x = W.heap.size + 1) w3 w6) := Lib.hid (HC5.out.trans (Chg.of_below (fun _ => False) hb6) (fun _ _ h => h.elim))
  have HS6 := Lib.hid (HS5.out.below hb6)
  have c0 := HS6.out.lw.c0
  have c1 := HS6.out.lw.c1
  clear hb6 HC5 HS5 HR5 d1
  go_wp2_with fail
  refine (HP2.out w6 HC6.out).mono ?_
  rintro e w7 ⟨rfl, hh7, hc7⟩
  have HH7 := Lib.hid hh7
  have HS7 := Lib.hid (HK.out w7 ((HC6.out.mono (fun _ _ h => .inl h)).trans (hc7.mono (fun _ _ h => .inr h)) (fun _ _ h => h)))
  have c0 := HS7.out.lw.c0
  have c1 := HS7.out.lw.c1
  clear hh7 hc7 HP2 HC6 HS6
  go_wp2_with fail
  refine (HPT.out w7 HS7.out).mono ?_
  rintro e w8 ⟨rfl, hb8⟩
  have HS8 := Lib.hid (HS7.out.below hb8)
  obtain ⟨A8, c8, h8, hr8⟩ := HH7.out.below hb8
  have HR8 := Lib.hid hr8
  have d1 : w8.cell? ⟨W.heap.size + 1 + 1, 1, none⟩ = some (.slice A8 qp.length c8) := by rw [cell_of_row _ _ _ _ _ _ h8]; rfl
  clear hb8 HS7 HH7 HPT h8 hr8 c0 c1
  rcases HPA.out with ⟨rfl, rfl⟩ | ⟨rfl, x, rfl⟩ | ⟨hg1, hg2, rfl⟩
  · clear HPA
    go_wp2_with fail
    go_ret
    exact ⟨rfl, HS8.out.bel⟩
  · clear HPA
    obtain ⟨n, hn⟩ : ∃ n, qp.length = n := ⟨_, rfl⟩
    have HN := Lib.hid hn
    obtain ⟨b, off, rfl, hbw, _⟩ := HAA.out (by simp)
    have hl2 : (qp ++ [x]).length = n + 1 := by simp [hn]
    rw [hl2] at a1 HS8 ⊢
    rw [hn] at d1 HR8
    have hra := (HS8.out.ra).take n (by simp [hn])
    rw [List.map_append, List.take_left' (by simpa using hn)] at hra
    have HRA := Lib.hid hra
    clear hn hl2 hra HAA hbw
    go_wp2_with fail
    have d1 : w8.drew.cell? ⟨W.heap.size + 1 + 1, 1, none⟩ = some (.slice A8 n c8) := d1
    have hlt : W.heap.size + 1 + 1 < w8.drew.heap.size := World.block_lt_of_cell? w8.drew _ d1
    have HSD := Lib.hid (HS8.out.below (Below.refl _ _).drew)
    have HRD := Lib.hid (HR8.out.below (Below.refl _ _).drew)
    have HRE := Lib.hid (HRA.out.below (Below.refl _ _).drew)
    have hw1 : IntKind.i64.wrap ((n : Int) + 1 - 1) = (n : Int) := by rw [show (n : Int) + 1 - 1 = n by omega]; exact IntWalk.i64_in _ (by omega)
    have hw2 : IntKind.i64.wrap (n : Int) = (n : Int) := IntWalk.i64_in _ (by omega)
    have s0 : (n : Int) ≤ ca := by omega
    have s1 : n ≤ ca := by omega
    have s2 : ¬ (ca : Int) < n := by omega
    have s3 : ¬ ca < n := by omega
    go_region_held (fun W' => W'.cell? ⟨W.heap.size + 1 + 1, 1, none⟩ = some (.slice A8 n c8)) (exact d1)
          (first
            | (go_at_call 30; refine (sameEdges_any w8.drew _ _ (qp.map Ear.askE) HRD.out HRE.out).mono ?_; rintro e w9 ⟨rfl, hb9⟩; have d1 := (hb9.cell hlt).trans d1))
    go_wp2_with fail
    go_ret
    exact ⟨rfl, below_lift HSD.out.bel hb9⟩
  · clear HPA HAA
    have e1 : (g3 == 145) = false := by rw [beq_eq_false_iff_ne]; exact hg1
    have e2 : (g3 == 0) = false := by rw [beq_eq_false_iff_ne]; exact hg2
    go_wp2_with fail
    refine (sameEdges_any w8 _ _ (qp.map Ear.askE) HR8.out HS8.out.ra).mono ?_
    rintro e w9 ⟨rfl, hb9⟩
    go_wp2_with fail
    go_ret
    exact ⟨rfl, below_lift HS8.out.bel hb9⟩

end Go.Proofs.YtpombeiabgbpiaaDoor
