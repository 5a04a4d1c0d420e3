/-
PathSteps: a path leads part by part, and just these Looks are asked, of whatever directories.
-/
import Derived.Test.YtpombeiabgbpiaaDoorWHears
namespace Go.Proofs.YtpombeiabgbpiaaDoor
open Go.RowKit

/-- the facts that stay -/
structure StS (t b : Nat) (es : List EdgeV) (v u : Value) (l : List ByteArray) (sl : Bool) (W0 W : World) : Prop where
  lw : LwS t b es u l sl W
  ed : RdE W v es
  bel : Below W0.heap.size W0 W
theorem StS.below {t b : Nat} {es : List EdgeV} {v u : Value} {l : List ByteArray} {sl : Bool} {W0 W W' : World} (h : StS t b es v u l sl W0 W) (hb : Below W.heap.size W W') : StS t b es v u l sl W0 W' :=
  ⟨h.lw.below hb, h.ed.below hb, below_lift h.bel hb⟩
/-- behind k parts -/
structure StI (lk : Int → ByteArray → Int × Bool) (l : List ByteArray) (k : Nat) (n : Int) (sub : Bool) (e : Int) (q : List (Int × ByteArray)) (va : Value) (w3 W : World) : Prop where
  res : resF lk (l.take k) false = (n, sub, e)
  asks : wkA lk rootW (l.take k) = q
  own : W.ownsRow w3.heap.size 44 4 va q.length (edgesC (q.map Ear.askE))
  bel : Below w3.heap.size w3 W
theorem StI.below {lk : Int → ByteArray → Int × Bool} {l : List ByteArray} {k : Nat} {n : Int} {sub : Bool} {e : Int} {q : List (Int × ByteArray)} {va : Value} {w3 W W' : World} (h : StI lk l k n sub e q va w3 W) (hb : Below W.heap.size W W') : StI lk l k n sub e q va w3 W' :=
  ⟨h.res, h.asks, own_chg h.own (Chg.of_below (fun _ => False) hb) (fun _ _ h => h), below_lift h.bel hb⟩
theorem StI.len {lk : Int → ByteArray → Int × Bool} {l : List ByteArray} {k : Nat} {n : Int} {sub : Bool} {e : Int} {q : List (Int × ByteArray)} {va : Value} {w3 W : World} (h : StI lk l k n sub e q va w3 W) : q.length ≤ k := by
  have := wkA_len lk (l.take k) rootW
  rw [h.asks, List.length_take] at this
  omega
/-- the asks can be read -/
theorem StI.rd {es : List EdgeV} {l : List ByteArray} {k : Nat} {n : Int} {sub : Bool} {e : Int} {q : List (Int × ByteArray)} {va : Value} {w3 W : World} (h : StI (lookT es) l k n sub e q va w3 W) (hok : ∀ e ∈ es, e.Ok) (hnm : ∀ s ∈ l, s.size ≤ maxLen) : RdE W va (q.map Ear.askE) := by
  have hq := wkA_ok (lookT_wf hok) (l.take k) rootW (fun s hs => hnm s (List.mem_of_mem_take hs)) (by simp [rootW]; decide)
  rw [h.asks] at hq
  exact RdE.of_own (l := q.map Ear.askE) (by rw [List.length_map]; exact h.own) (fun e he => by
    obtain ⟨x, hx, rfl⟩ := List.mem_map.1 he
    exact ⟨(hq x hx).1, (hq x hx).2, (by decide : (Lit.int .i64 0).wf = true)⟩)
/-- the row grows by one ask -/
theorem StI.more {lk : Int → ByteArray → Int × Bool} {l : List ByteArray} {k : Nat} {n m : Int} {sub is : Bool} {e f : Int} {q : List (Int × ByteArray)} {s : ByteArray} {va v7 : Value} {w3 w6 w7 : World} {o : Obj} (h : StI lk l k n sub e q va w3 w6)
    (hr : resF lk (l.take (k + 1)) false = (m, is, f)) (hq : wkA lk rootW (l.take (k + 1)) = q ++ [(n, s)])
    (hown : w7.ownsRow w3.heap.size 44 4 v7 (q.length + 1) (edgesC (q.map Ear.askE) ++ [.int .i64 n, .string s, .int .i64 0, .bool false])) (hg : (w6.alloc o).grownBy w7 va.ownBlock) : StI lk l (k + 1) m is f (q ++ [(n, s)]) v7 w3 w7 := by
  refine ⟨hr, hq, ?_, h.bel.trans (below_grown h.own h.bel.size hg)⟩
  rw [List.length_append, List.map_append]
  have : edgesC (q.map Ear.askE ++ [(n, s)].map Ear.askE) = edgesC (q.map Ear.askE) ++ [.int .i64 n, .string s, .int .i64 0, .bool false] := by simp [edgesC, Ear.askE, EdgeV.cells]
  rw [this]
  exact hown

set_option maxRecDepth 100000 in
set_option maxHeartbeats 8000000 in
theorem steps_any (W : World) (v : Value) (es : List EdgeV) (A : Option Addr) (N c : Nat) (l : List ByteArray) (sl : Bool) (he : RdE W v es) (hs : StrsV W (.slice A N c) l) (hnz : Nz (.slice A N c)) :
    Calls Tryd.prog 6 #[v, .agg #[.slice A N c, .bool sl]] W fun e W' => e = .returned (.bool true) ∧ Below W.heap.size W W' := by
  obtain ⟨i0, hi, hz0, hz1, hz2⟩ := info_parts info44
  have hn : N = l.length := by obtain ⟨_, _, e, _⟩ := hs.1; injection e
  have hlen := hs.2.2
  have hcm : c ≤ 9223372036854775807 ∧ l.length ≤ c := by
    obtain ⟨_, _, e, k1, k2, _⟩ := hs.1
    injection e with _ _ e
    subst e
    exact ⟨maxLen_eq ▸ k2, k1⟩
  obtain ⟨hcm, hlc⟩ := hcm
  have hrd : ∀ X, Below W.heap.size W X → 0 < N → ∃ b off, A = some ⟨b, off, none⟩ ∧ b < X.heap.size ∧ ∀ i s, l[i]? = some s → X.cell? ⟨b, off + i, none⟩ = some (.string s) := by
    obtain ⟨A', c', e, k1, k2, k3⟩ := hs.1
    injection e with e1 _ e
    subst e1 e
    intro X hX h0
    obtain ⟨b, off, e, hb, hh⟩ := k3 (by omega)
    exact ⟨b, off, e, Nat.lt_of_lt_of_le hb hX.size, fun i s hs => cell_below hX (hh i s hs)⟩
  have HRD := Lib.hid hrd
  have hb1 : Below W.heap.size W (W.alloc (.cells #[.slice A N c, .bool sl] 25)) := (Below.refl _ _).alloc (Nat.le_refl _) _
  have HN := Lib.hid (newTable_any _ v es (he.below hb1))
  have HB1 := Lib.hid hb1
  have HO := Lib.hid he
  have HS := Lib.hid hs
  have HZ := Lib.hid hnz
  have HLN := Lib.hid hn
  have HN1 := Lib.hid hs.2.1.max
  rw [← hn] at hlen hlc
  clear hb1 he hs hnz hrd hn
  go_enter Tryd.func6, Tryd.ntmps6
  go_wp2_with fail
  refine HN.out.mono ?_
  rintro e w1 ⟨t, rfl, ht, htw, hb1⟩
  have ho : ∀ e ∈ es, e.Ok := by
    obtain ⟨_, _, _, _, _, ho, _⟩ := HO.out
    exact ho
  have HS1 := Lib.hid (show StS t W.heap.size es v (.slice A N c) l sl W w1 from ⟨⟨ht, (hb1.block _ (by simp)).trans (heap_alloc_new W _), (HS.out.1.below HB1.out).below hb1⟩, (HO.out.below HB1.out).below hb1, below_lift HB1.out hb1⟩)
  have HOK := Lib.hid ho
  clear ht hb1 htw ho HN HO HS HB1
  go_wp2_with fail
  refine (first_any w1).mono ?_
  rintro e w2 ⟨rfl, hb2⟩
  have HS2 := Lib.hid (HS1.out.below hb2)
  have c0 := HS2.out.lw.c0
  clear hb2 HS1
  by_cases h300 : N ≤ 300
  · have hrs := resolve_tab w2 t es HS2.out.lw.tab HOK.out (.slice none 0 0) [] false ⟨none, 0, rfl, Nat.le_refl _, by rw [maxLen_eq]; decide, fun h => by cases h⟩ (by decide) (by simp)
    rw [show resF (lookT es) [] false = (1, true, 0) by simp [resF, wkF, rootW]] at hrs
    have HRS := Lib.hid hrs
    clear hrs
    go_wp2_with fail
    refine HRS.out.mono ?_
    rintro e w3 ⟨rfl, hb3⟩
    have HS3 := Lib.hid (HS2.out.below hb3)
    have HK : Hid (∀ X, Below w3.heap.size w3 X → StS t W.heap.size es v (.slice A N c) l sl W X) := Lib.hid (fun X hX => HS3.out.below hX)
    clear hb3 HS2 HRS c0 HS3
    go_wp2_with fail
    go_loopw [6, 7, 8, 9, 10] (fun v6 v7 v8 v9 v10 wr => ∃ (k : Nat) (n : Int) (sub : Bool) (e : Int) (q : List (Int × ByteArray)) (A9 : Option Addr) (c9 : Nat), k ≤ N ∧ v10 = .int .i64 k ∧ v6 = .int .i64 n ∧ v7 = .bool sub ∧ v8 = .int .i64 e ∧ v9 = .slice A9 q.length c9 ∧ Hid (StI (lookT es) l k n sub e q (.slice A9 q.length c9) w3 wr)) (fun _ _ _ _ v10 _ => N - (intOf v10).toNat)
    case atStart => exact ⟨0, 1, true, 0, [], none, 0, by omega, rfl, rfl, rfl, rfl, rfl, Lib.hid ⟨by simp [resF, wkF, rootW], rfl, World.ownsRow_nil _ _ _ _, Below.refl _ _⟩⟩
    case round =>
      obtain ⟨k, n, sub, e, q, A9, c9, hk, rfl, rfl, rfl, rfl, rfl, HI⟩ := hrel
      have HX := Lib.hid (HK.out wr HI.out.bel)
      have c0 := HX.out.lw.c0
      have c1 := HX.out.lw.c1
      by_cases hkn : k < N
      · obtain ⟨s, hs⟩ : ∃ s, l[k]? = some s := ⟨_, List.getElem?_eq_getElem (by rw [← HLN.out]; exact hkn)⟩
        have htk : l.take (k + 1) = l.take k ++ [s] := by rw [List.take_add_one, hs]; rfl
        have hom := one_more (lookT es) (l.take k) s
        rw [← htk, HI.out.res, HI.out.asks] at hom
        obtain ⟨⟨m, is, f⟩, hR⟩ : ∃ R, resF (lookT es) (l.take (k + 1)) false = R := ⟨_, rfl⟩
        obtain ⟨q', hq'⟩ : ∃ q', wkA (lookT es) rootW (l.take (k + 1)) = q' := ⟨_, rfl⟩
        rw [hR, hq'] at hom
        simp only at hom
        have HOM := Lib.hid hom
        have HR := Lib.hid hR
        have HQ := Lib.hid hq'
        have HST := Lib.hid (step_any wr A N c (k + 1) l sl HX.out.lw.rd HZ.out (by rw [← HLN.out]; omega) (by omega))
        have HRT : Hid (∀ (X : World) (v4 : Value), TabT X t es → RdS X v4 (l.take (k + 1)) → Calls Tryd.prog 23 #[.iface 36 (.pointer (some ⟨t, 0, none⟩)), .agg #[v4, .bool false]] X fun e w' => e = .returned (.tuple #[.int .i64 m, .bool is, .int .i64 f]) ∧ Below X.heap.size X w') := Lib.hid (fun X v4 h1 h2 => by
          have := resolve_tab X t es h1 HOK.out v4 (l.take (k + 1)) false h2 (by rw [List.length_take]; omega) (fun s hs => HN1.out s (List.mem_of_mem_take hs))
          rw [hR] at this
          exact this)
        have HSZ : Hid (s.size ≤ maxLen) := Lib.hid (HN1.out s (List.mem_of_getElem? hs))
        have HWF : Hid ((Lit.int .i64 n).wf = true) := Lib.hid (by
          have := res_wf (lookT_wf HOK.out) (l.take k) false
          rw [HI.out.res] at this
          exact this)
        have HGS := Lib.hid hs
        clear hom hR hq' htk hs
        go_wp2_with fail
        refine HST.out.mono ?_
        rintro e' w4 ⟨v4, rfl, ho4, hb4⟩
        have HI4 := Lib.hid (HI.out.below hb4)
        have HX4 := Lib.hid (HX.out.below hb4)
        have HR4 : Hid (RdS w4 v4 (l.take (k + 1))) := Lib.hid (RdS.of_own (by rw [List.length_take, Nat.min_eq_left (by rw [← HLN.out]; omega)]; exact ho4))
        clear ho4 hb4 HI HX HST c0 c1
        go_wp2_with fail
        refine (HRT.out w4 v4 HX4.out.lw.tab HR4.out).mono ?_
        rintro e' w5 ⟨rfl, hb5⟩
        have HI5 := Lib.hid (HI4.out.below hb5)
        have HX5 := Lib.hid (HX4.out.below hb5)
        have c0 := HX5.out.lw.c0
        obtain ⟨g, off, rfl, hgw, hh⟩ := HRD.out w5 HX5.out.bel (by omega)
        have d0 : w5.cell? ⟨g, off + k, none⟩ = some (.string s) := hh k s HGS.out
        clear hb5 HI4 HX4 HRT HR4 hh HGS
        rcases HOM.out with ⟨h0, rfl, rfl, rfl, rfl⟩ | ⟨rfl, rfl, rfl, rfl, rfl, rfl⟩ | ⟨rfl, rfl, rfl, rfl, rfl, rfl, rfl⟩ | ⟨rfl, rfl, rfl, rfl, rfl, rfl⟩ | ⟨rfl, rfl, h1, h2, hx, rfl, rfl, rfl, rfl⟩ | ⟨rfl, rfl, h1, h2, hx, rfl, hm, his, rfl⟩
        · clear HOM
          have e0 : (f == 0) = false := by rw [beq_eq_false_iff_ne]; exact h0
          have HI6 : Hid (StI (lookT es) l (k + 1) 0 false f q' (.slice A9 q'.length c9) w3 w5) := Lib.hid ⟨HR.out, HQ.out, HI5.out.own, HI5.out.bel⟩
          clear HI5
          go_wp2_with fail
          go_roundw
          case rel => exact ⟨k + 1, _, _, _, q', A9, c9, by omega, by go_num, rfl, rfl, rfl, rfl, HI6⟩
          case measure => simp [intOf]; omega
        · clear HOM
          have HI6 : Hid (StI (lookT es) l (k + 1) 0 false 144 q' (.slice A9 q'.length c9) w3 w5) := Lib.hid ⟨HR.out, HQ.out, HI5.out.own, HI5.out.bel⟩
          clear HI5
          go_wp2_with fail
          go_roundw
          case rel => exact ⟨k + 1, _, _, _, q', A9, c9, by omega, by go_num, rfl, rfl, rfl, rfl, HI6⟩
          case measure => simp [intOf]; omega
        · clear HOM
          have HI6 : Hid (StI (lookT es) l (k + 1) m true 0 q' (.slice A9 q'.length c9) w3 w5) := Lib.hid ⟨HR.out, HQ.out, HI5.out.own, HI5.out.bel⟩
          clear HI5
          unfold dot1 at d0
          go_wp2_with fail
          go_roundw
          case rel => exact ⟨k + 1, _, _, _, q', A9, c9, by omega, by go_num, rfl, rfl, rfl, rfl, HI6⟩
          case measure => simp [intOf]; omega
        · clear HOM
          have HI6 : Hid (StI (lookT es) l (k + 1) m true 0 q' (.slice A9 q'.length c9) w3 w5) := Lib.hid ⟨HR.out, HQ.out, HI5.out.own, HI5.out.bel⟩
          clear HI5
          unfold dot2 at d0
          go_wp2_with fail
          go_roundw
          case rel => exact ⟨k + 1, _, _, _, q', A9, c9, by omega, by go_num, rfl, rfl, rfl, rfl, HI6⟩
          case measure => simp [intOf]; omega
        · clear HOM
          have e1 : (s.toList == [46]) = false := ne_lit h1
          have e2 : (s.toList == [46, 46]) = false := ne_lit h2
          obtain ⟨⟨x1, x2⟩, hX⟩ : ∃ X, lookT es n s = X := ⟨_, rfl⟩
          have HLK := Lib.hid (look_any w5 t es HX5.out.lw.tab n s HWF.out HSZ.out)
          rw [hX] at hx HLK
          simp only at hx HLK
          clear hX h1 h2
          go_wp2_with fail
          refine HLK.out.mono ?_
          rintro e' w6 ⟨rfl, hb6⟩
          have HI6 := Lib.hid (HI5.out.below hb6)
          have hql := HI6.out.len
          have hBs := HI6.out.bel.size
          clear hb6 HI5 HX5 HLK c0 d0
          go_wp2_with (at_builtin; refine wpList_append_own_at _ rfl _ _ 35 rfl w3.heap.size 44 i0 (.agg #[.int .i64 0, .string ByteArray.empty, .int .i64 0, .bool false]) 4 40 Tryd.underlying35 hi hz0 hz1 hz2 rfl (by decide) (.slice A9 q.length c9) q.length _ rfl (HI6.out.own.alloc _) ⟨w6.heap.size, 0, none⟩ 1 1 [.int .i64 n, .string s, .int .i64 0, .bool false] rfl rfl (World.news_of_block (cs := #[.int .i64 n, .string s, .int .i64 0, .bool false]) (t := 44) (fr := (0, 0)) (heap_alloc_new w6 _)) (by simp [Value.oneCell']) (by rw [maxLen_eq]; omega) (by omega) (by simp; omega) ?_; intro v7 w7 hown7 hg7 _ _; obtain ⟨A7, c7, rfl⟩ := own_form hown7; have HI7 := Lib.hid (HI6.out.more HR.out HQ.out hown7 hg7); clear hown7 hg7)
          go_roundw
          case rel => exact ⟨k + 1, _, _, _, q ++ [(n, s)], A7, c7, by omega, by go_num, rfl, rfl, rfl, by rw [List.length_append]; rfl, by rw [List.length_append]; exact HI7⟩
          case measure => simp [intOf]; omega
        · clear HOM
          have e1 : (s.toList == [46]) = false := ne_lit h1
          have e2 : (s.toList == [46, 46]) = false := ne_lit h2
          have HLK := Lib.hid (look_any w5 t es HX5.out.lw.tab n s HWF.out HSZ.out)
          rw [← hm, ← his] at HLK
          rw [← hm] at hx
          have hx' : ¬ m < 1 := by omega
          clear hm his h1 h2
          go_wp2_with fail
          refine HLK.out.mono ?_
          rintro e' w6 ⟨rfl, hb6⟩
          have HI6 := Lib.hid (HI5.out.below hb6)
          have hql := HI6.out.len
          have hBs := HI6.out.bel.size
          have hzz : (is != is) = false := by cases is <;> rfl
          clear hb6 HI5 HX5 HLK c0 d0
          go_wp2_with (at_builtin; refine wpList_append_own_at _ rfl _ _ 35 rfl w3.heap.size 44 i0 (.agg #[.int .i64 0, .string ByteArray.empty, .int .i64 0, .bool false]) 4 40 Tryd.underlying35 hi hz0 hz1 hz2 rfl (by decide) (.slice A9 q.length c9) q.length _ rfl (HI6.out.own.alloc _) ⟨w6.heap.size, 0, none⟩ 1 1 [.int .i64 n, .string s, .int .i64 0, .bool false] rfl rfl (World.news_of_block (cs := #[.int .i64 n, .string s, .int .i64 0, .bool false]) (t := 44) (fr := (0, 0)) (heap_alloc_new w6 _)) (by simp [Value.oneCell']) (by rw [maxLen_eq]; omega) (by omega) (by simp; omega) ?_; intro v7 w7 hown7 hg7 _ _; obtain ⟨A7, c7, rfl⟩ := own_form hown7; have HI7 := Lib.hid (HI6.out.more HR.out HQ.out hown7 hg7); clear hown7 hg7)
          go_roundw
          case rel => exact ⟨k + 1, _, _, _, q ++ [(n, s)], A7, c7, by omega, by go_num, rfl, rfl, rfl, by rw [List.length_append]; rfl, by rw [List.length_append]; exact HI7⟩
          case measure => simp [intOf]; omega
      · obtain rfl : k = N := by omega
        have htk : l.take k = l := List.take_of_length_le (by rw [HLN.out]; exact Nat.le_refl _)
        have hrs := HI.out.res
        rw [htk] at hrs
        have hsl := res_slash (lookT es) l sl
        rw [hrs] at hsl
        have HSL := Lib.hid hsl
        have hra := HI.out.rd HOK.out HN1.out
        have hq := HI.out.asks
        rw [htk] at hq
        have hra' : RdE wr (.slice A9 q.length c9) ((wkA (lookT es) rootW l).map Ear.askE) := by rw [hq]; exact hra
        have hH := hears_any wr t v (.slice A k c) (.slice A9 q.length c9) es l sl HX.out.ed HX.out.lw.tab HX.out.lw.rd HN1.out (by rw [← HLN.out]; exact h300) hra'
        have HH := Lib.hid hH
        clear htk hrs hsl hra hra' hq hH
        go_wp2_with fail
        refine HH.out.mono ?_
        rintro e' w4 ⟨rfl, hb4⟩
        have HX4 := Lib.hid (HX.out.below hb4)
        have c0 := HX4.out.lw.c0
        have c1 := HX4.out.lw.c1
        have hrs := HX4.out.lw.resolve HOK.out (by rw [← HLN.out]; omega) HN1.out
        obtain ⟨⟨m, is, f⟩, hR⟩ : ∃ R, resF (lookT es) l sl = R := ⟨_, rfl⟩
        rw [hR] at hrs
        have hsl := HSL.out
        rw [hR] at hsl
        have HRS := Lib.hid hrs
        clear hb4 HX HH hrs hR HSL
        go_wp2_with fail
        refine HRS.out.mono ?_
        rintro e' w5 ⟨rfl, hL5, hb5⟩
        have HX5 := Lib.hid (HX4.out.below hb5)
        have c0 := HX5.out.lw.c0
        have c1 := HX5.out.lw.c1
        clear hL5 hb5 HX4 HRS
        by_cases h0 : e = 0
        · subst h0
          rw [if_neg (by simp)] at hsl
          by_cases h1 : sl = true ∧ sub = false
          · obtain ⟨rfl, rfl⟩ := h1
            rw [if_pos (by simp)] at hsl
            injection hsl with k1 hsl
            injection hsl with k2 k3
            subst k1 k2 k3
            go_wp2_with fail
            go_ret
            exact ⟨rfl, HX5.out.bel⟩
          · rw [if_neg h1] at hsl
            injection hsl with k1 hsl
            injection hsl with k2 k3
            subst k1 k2 k3
            have hz : (is == is) = true := by cases is <;> rfl
            cases sl
            · go_wp2_with fail
              go_ret
              exact ⟨by simp, HX5.out.bel⟩
            · cases is
              · exact absurd ⟨rfl, rfl⟩ h1
              · go_wp2_with fail
                go_ret
                exact ⟨by simp, HX5.out.bel⟩
        · rw [if_pos h0] at hsl
          injection hsl with k1 hsl
          injection hsl with k2 k3
          subst k1 k2 k3
          have e0 : (f == 0) = false := by rw [beq_eq_false_iff_ne]; exact h0
          go_wp2_with fail
          go_ret
          exact ⟨by simp, HX5.out.bel⟩
  · go_wp2_with fail
    go_ret
    exact ⟨rfl, HS2.out.bel⟩

theorem PathSteps.walk (W : World) (v : Value) (ho : EdgesV W v) (u : Value) (hp : PathV W u) : Calls Tryd.prog 6 #[v, u] W fun e W' => e = .returned (.bool true) ∧ Below W.heap.size W W' := by
  obtain ⟨es, he, _⟩ := ho
  obtain ⟨u, l, b, rfl, hs, hz⟩ := hp
  obtain ⟨A, c, rfl, _⟩ := hs.1
  exact steps_any W v es A l.length c l b he hs hz

end Go.Proofs.YtpombeiabgbpiaaDoor
