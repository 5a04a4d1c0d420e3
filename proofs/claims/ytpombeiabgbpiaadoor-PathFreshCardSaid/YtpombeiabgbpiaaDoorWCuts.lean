/-
takes and stands: what a text's bytes alone say of it.
-/
import Derived.Test.YtpombeiabgbpiaaDoorWPlain
import Derived.BigQuiet
namespace Go.Proofs.YtpombeiabgbpiaaDoor
open Go.RowKit

theorem pt_split : ∀ (l acc : List UInt8), acc ≠ [] → ∃ u r, l = u ++ r ∧ 47 ∉ u ∧ (r = [] ∨ r.head? = some 47) ∧ pt acc l = (acc ++ u) :: pt [] r
  | [], acc, h => ⟨[], [], rfl, by simp, .inl rfl, by rw [pt_nil, if_neg h, pt_nil, if_pos rfl, List.append_nil]⟩
  | x :: l, acc, h => by
    by_cases hx : x = 47
    · subst hx
      exact ⟨[], 47 :: l, rfl, by simp, .inr rfl, by rw [pt_slash, if_neg h, pt_slash, if_pos rfl, List.append_nil]⟩
    · obtain ⟨u, r, a, b, c, d⟩ := pt_split l (acc ++ [x]) (by simp)
      exact ⟨x :: u, r, by rw [a]; rfl, by simp [Ne.symm hx, b], c, by rw [pt_byte _ hx, d]; simp⟩
theorem bys_drop (t : ByteArray) (i : Nat) (h : i < t.size) : (bys t).drop i = t[i] :: (bys t).drop (i + 1) := by
  rw [List.drop_eq_getElem_cons (by rw [bys_length]; exact h)]
  rfl
theorem bys_head (t : ByteArray) (h : 0 < t.size) : (bys t).head? = some t[0] := by
  have := bys_drop t 0 h
  rw [List.drop_zero] at this
  rw [this]; rfl

/-- behind i bytes of a text -/
def TkI (t : ByteArray) (i : Nat) (acc : List UInt8) (lg : Bool) : Prop :=
  0 ∉ (bys t).take i ∧ ((∃ p ∈ pt [] (bys t), 28 < p.length) ↔ lg = true ∨ ∃ p ∈ pt acc ((bys t).drop i), 28 < p.length) ∧ (28 < acc.length → lg = true) ∧ acc.length ≤ i
theorem TkI.start (t : ByteArray) : TkI t 0 [] false := ⟨by simp, by simp, by simp, by simp⟩
theorem TkI.slash {t : ByteArray} {i : Nat} {acc : List UInt8} {lg : Bool} (h : TkI t i acc lg) (hi : i < t.size) (hx : t[i] = 47) : TkI t (i + 1) [] lg := by
  obtain ⟨a, b, c, d⟩ := h
  have hd := bys_drop t i hi
  rw [hx] at hd
  refine ⟨?_, ?_, by simp, by simp⟩
  · rw [List.take_add_one]
    intro hm
    rcases List.mem_append.1 hm with h | h
    · exact a h
    · have : (bys t)[i]? = some t[i] := List.getElem?_eq_getElem (by rw [bys_length]; exact hi)
      rw [this, hx] at h
      simp at h
  · rw [b, hd, pt_slash]
    split
    · exact Iff.rfl
    · constructor
      · rintro (h | ⟨p, hp, h⟩)
        · exact .inl h
        · rcases List.mem_cons.1 hp with rfl | hp
          · exact .inl (c h)
          · exact .inr ⟨p, hp, h⟩
      · rintro (h | ⟨p, hp, h⟩)
        · exact .inl h
        · exact .inr ⟨p, List.mem_cons_of_mem _ hp, h⟩
theorem TkI.byte {t : ByteArray} {i : Nat} {acc : List UInt8} {lg : Bool} (h : TkI t i acc lg) (hi : i < t.size) (hx : t[i] ≠ 47) (h0 : t[i] ≠ 0) : TkI t (i + 1) (acc ++ [t[i]]) (lg || decide (28 < acc.length + 1)) := by
  obtain ⟨a, b, c, d⟩ := h
  have hd := bys_drop t i hi
  refine ⟨?_, ?_, by simp; omega, by simp; omega⟩
  · rw [List.take_add_one]
    intro hm
    rcases List.mem_append.1 hm with h | h
    · exact a h
    · have : (bys t)[i]? = some t[i] := List.getElem?_eq_getElem (by rw [bys_length]; exact hi)
      rw [this] at h
      simp at h
      exact h0 h.symm
  · rw [b, hd, pt_byte _ hx]
    constructor
    · rintro (h | h)
      · exact .inl (by rw [h]; rfl)
      · exact .inr h
    · rintro (h | h)
      · rw [Bool.or_eq_true] at h
        rcases h with h | h
        · exact .inl h
        · obtain ⟨u, r, _, _, _, e⟩ := pt_split ((bys t).drop (i + 1)) (acc ++ [t[i]]) (by simp)
          have h := of_decide_eq_true h
          exact .inr ⟨_, by rw [e]; exact List.mem_cons_self .., by simp; omega⟩
      · exact .inr h

set_option maxRecDepth 100000 in
set_option maxHeartbeats 4000000 in
/-- takes -/
theorem takes_any (w : World) (t : ByteArray) : Calls Tryd.prog 18 #[.string t] w fun e w' => e = .returned (.int .i64 (errOf t)) ∧ Below w.heap.size w w' := by
  obtain ⟨R, hR⟩ : ∃ R, errOf t = R := ⟨_, rfl⟩
  have HR := Lib.hid hR
  rw [hR]
  clear hR
  unfold errOf at HR
  go_enter Tryd.func18, Tryd.ntmps18
  by_cases h200 : 200 < t.size
  · obtain rfl : R = 140 := by rw [← HR.out, if_pos h200]
    go_wp2_with fail
    go_ret
    exact ⟨rfl, Below.refl _ _⟩
  · by_cases h0 : t.size = 0
    · obtain rfl : t = ByteArray.empty := ByteArray.ext (Array.eq_empty_of_size_eq_zero h0)
      obtain rfl : R = 141 := by rw [← HR.out]; rfl
      go_wp2_with fail
      go_ret
      exact ⟨rfl, Below.refl _ _⟩
    · have hz : 0 < t.size := by omega
      have hte : (t.toList == []) = false := by
        rw [beq_eq_false_iff_ne, toList_bys]
        exact fun e => h0 (bys_nil.1 e)
      by_cases h47 : t[0] = 47
      · have hb0 : ((t[0].toNat : Int) == 47) = true := by rw [h47]; rfl
        have HE : Hid ((if 0 ∈ bys t then (141 : Int) else if ∃ x ∈ frs t.size t, 28 < x.size then 142 else 0) = R) := by
          have := HR.out
          rw [if_neg h200, if_neg (by rw [bys_head t hz, h47]; simp)] at this
          exact Lib.hid this
        clear HR
        go_wp2_with fail
        go_loopw [3, 4, 5] (fun v3 v4 v5 wr => ∃ (i : Nat) (acc : List UInt8) (lg : Bool), i ≤ t.size ∧ v5 = .int .i64 i ∧ v3 = .int .i64 acc.length ∧ v4 = .bool lg ∧ Hid (TkI t i acc lg) ∧ wr = w) (fun _ _ v5 _ => t.size - (intOf v5).toNat)
        case atStart => exact ⟨0, [], false, by omega, rfl, rfl, rfl, Lib.hid (TkI.start t), rfl⟩
        case round =>
          obtain ⟨i, acc, lg, hi, rfl, rfl, rfl, HI, rfl⟩ := hrel
          have hai := HI.out.2.2.2
          obtain ⟨na, hna⟩ : ∃ na, acc.length = na := ⟨_, rfl⟩
          have HNA := Lib.hid hna
          rw [hna] at hai ⊢
          clear hna
          by_cases hil : i < t.size
          · rcases byte_cases t[i] with hx | hx | ⟨hx1, hx2, hx3, hx4⟩
            · have hb1 : ((t[i].toNat : Int) == 0) = false := by rw [hx]; rfl
              have hb2 : ((t[i].toNat : Int) == 47) = true := by rw [hx]; rfl
              have HJ := Lib.hid (HI.out.slash hil hx)
              cases lg
              · go_wp2_with fail
                go_roundw
                case rel => exact ⟨i + 1, [], false, by omega, by go_num, rfl, rfl, HJ, trivial⟩
                case measure => simp [intOf]; omega
              · go_wp2_with fail
                go_roundw
                case rel => exact ⟨i + 1, [], true, by omega, by go_num, rfl, rfl, HJ, trivial⟩
                case measure => simp [intOf]; omega
            · have hb1 : ((t[i].toNat : Int) == 0) = true := by rw [hx]; rfl
              obtain rfl : R = 141 := by rw [← HE.out, if_pos (by rw [← hx]; exact byte_mem t hil)]
              go_wp2_with fail
              go_ret
              exact ⟨rfl, Below.refl _ _⟩
            · have HJ := Lib.hid (HI.out.byte hil hx3 hx4)
              rw [HNA.out] at HJ
              cases lg
              · by_cases hl : 28 < na + 1
                · have hl2 : (28 : Int) < (na : Int) + 1 := by omega
                  rw [decide_eq_true hl] at HJ
                  go_wp2_with fail
                  go_roundw
                  case rel => exact ⟨i + 1, _, true, by omega, by go_num, by simp [HNA.out], rfl, HJ, trivial⟩
                  case measure => simp [intOf]; omega
                · have hl2 : ¬ (28 : Int) < (na : Int) + 1 := by omega
                  rw [decide_eq_false hl] at HJ
                  go_wp2_with fail
                  go_roundw
                  case rel => exact ⟨i + 1, _, false, by omega, by go_num, by simp [HNA.out], rfl, HJ, trivial⟩
                  case measure => simp [intOf]; omega
              · go_wp2_with fail
                go_roundw
                case rel => exact ⟨i + 1, _, true, by omega, by go_num, by simp [HNA.out], rfl, HJ, trivial⟩
                case measure => simp [intOf]; omega
          · obtain rfl : t.size = i := by omega
            obtain ⟨q1, q2, q3, _⟩ := HI.out
            have q1 : ¬ 0 ∈ bys t := by rwa [List.take_of_length_le (by rw [bys_length]; exact Nat.le_refl _)] at q1
            have q4 : (∃ x ∈ frs t.size t, 28 < x.size) ↔ lg = true := by
              rw [frs_long, q2, List.drop_eq_nil_of_le (by rw [bys_length]; exact Nat.le_refl _), pt_nil]
              refine ⟨fun h => h.elim id ?_, .inl⟩
              rintro ⟨p, hp, h⟩
              split at hp
              · simp at hp
              · rw [List.mem_singleton.1 hp] at h; exact q3 h
            cases lg
            · obtain rfl : R = 0 := by rw [← HE.out, if_neg q1, if_neg (fun h => by simpa using q4.1 h)]
              clear q1 q2 q3 q4
              go_wp2_with fail
              go_ret
              exact ⟨rfl, Below.refl _ _⟩
            · obtain rfl : R = 142 := by rw [← HE.out, if_neg q1, if_pos (q4.2 rfl)]
              clear q1 q2 q3 q4
              go_wp2_with fail
              go_ret
              exact ⟨rfl, Below.refl _ _⟩
      · have hb0 : ((t[0].toNat : Int) == 47) = false := by
          rw [beq_eq_false_iff_ne]
          intro e
          exact h47 (UInt8.toNat_inj.1 (by simpa using (by exact_mod_cast e : t[0].toNat = 47)))
        obtain rfl : R = 141 := by rw [← HR.out, if_neg h200, if_pos (by rw [bys_head t hz]; simpa using h47)]
        go_wp2_with fail
        go_ret
        exact ⟨rfl, Below.refl _ _⟩

/-- the parts from the i-th on are those of the text from a byte on -/
def StI (t : ByteArray) (l : List ByteArray) (i a : Nat) : Prop := (l.drop i).map bys = pt [] ((bys t).drop a)
theorem StI.skip {t : ByteArray} {l : List ByteArray} {i a : Nat} (h : StI t l i a) (ha : a < t.size) (hx : t[a] = 47) : StI t l i (a + 1) := by
  unfold StI at h ⊢
  rw [h, bys_drop t a ha, hx, pt_slash, if_pos rfl]
/-- the next part stands there -/
theorem StI.part {t : ByteArray} {l : List ByteArray} {i a : Nat} {s : ByteArray} (h : StI t l i a) (hs : l[i]? = some s) (hx : ∀ ha : a < t.size, t[a] ≠ 47) :
    s.size ≠ 0 ∧ a + s.size ≤ t.size ∧ t.extract a (a + s.size) = s ∧ (∀ h : a + s.size < t.size, t[a + s.size] = 47) ∧ 47 ∉ bys s ∧ StI t l (i + 1) (a + s.size) := by
  unfold StI at h ⊢
  have hi := List.getElem?_eq_some_iff.1 hs
  rw [List.drop_eq_getElem_cons hi.1, hi.2, List.map_cons] at h
  by_cases ha : a < t.size
  · have hd := bys_drop t a ha
    rw [hd, pt_byte _ (hx ha)] at h
    obtain ⟨u, r, e1, e2, e3, e4⟩ := pt_split ((bys t).drop (a + 1)) ([] ++ [t[a]]) (by simp)
    rw [e4] at h
    have hb : bys s = [t[a]] ++ u := (List.cons.inj h).1
    have hr := (List.cons.inj h).2
    have hz : s.size = u.length + 1 := by rw [← bys_length, hb]; simp
    have hdr : (bys t).drop a = bys s ++ r := by rw [hd, hb, e1]; rfl
    have hdr2 : (bys t).drop (a + s.size) = r := by
      rw [← List.drop_drop, hdr, List.drop_left' (bys_length s)]
    have hsz : (bys t).length - a = s.size + r.length := by rw [← List.length_drop, hdr, List.length_append, bys_length]
    rw [bys_length] at hsz
    refine ⟨by omega, by omega, bys_inj ?_, fun hh => ?_, ?_, by rw [hr, hdr2]⟩
    · rw [bys_extract, List.drop_take, Nat.add_sub_cancel_left, hdr, List.take_left' (bys_length s)]
    · have := bys_drop t _ hh
      rw [hdr2] at this
      rcases e3 with e3 | e3
      · rw [e3] at this; cases this
      · rw [this] at e3
        simpa using e3
    · rw [hb]
      intro hm
      rcases List.mem_append.1 hm with hm | hm
      · exact hx ha (List.mem_singleton.1 hm).symm
      · exact e2 hm
  · rw [show (bys t).drop a = [] from List.drop_eq_nil_of_le (by rw [bys_length]; omega), pt_nil, if_pos rfl] at h
    cases h
/-- behind the last part nothing but slashes -/
theorem StI.last {t : ByteArray} {l : List ByteArray} {i a : Nat} (h : StI t l i a) (hi : l.length ≤ i) (hx : ∀ ha : a < t.size, t[a] ≠ 47) : t.size ≤ a := by
  unfold StI at h
  rw [List.drop_eq_nil_of_le hi] at h
  rcases Nat.lt_or_ge a t.size with ha | ha
  · rw [bys_drop t a ha, pt_byte _ (hx ha)] at h
    obtain ⟨u, r, _, _, _, e⟩ := pt_split ((bys t).drop (a + 1)) ([] ++ [t[a]]) (by simp)
    rw [e] at h
    cases h
  · exact ha
theorem byte_ne {x : UInt8} (h : x ≠ 47) : ((x.toNat : Int) == 47) = false := by
  rcases byte_cases x with hx | hx | ⟨hx, _⟩
  · exact absurd hx h
  · rw [hx]; rfl
  · exact hx

set_option maxRecDepth 100000 in
set_option maxHeartbeats 4000000 in
/-- stands -/
theorem stands_any (w : World) (t : ByteArray) (v : Value) (l : List ByteArray) (hr : RdS w v l) (ht : t.size ≤ 200) (hp : l.map bys = pt [] (bys t)) :
    Calls Tryd.prog 19 #[.string t, v] w fun e w' => e = .returned (.bool true) ∧ Below w.heap.size w w' := by
  obtain ⟨A, c, rfl, h1, h2, h3⟩ := hr
  have HR := Lib.hid h3
  have hcm : c ≤ 9223372036854775807 := maxLen_eq ▸ h2
  obtain ⟨n, hn⟩ : ∃ n, l.length = n := ⟨_, rfl⟩
  have HL := Lib.hid hn
  rw [hn] at h1 ⊢
  have HS0 : Hid (StI t l 0 0) := Lib.hid hp
  clear h3 h2 hn hp
  go_enter Tryd.func19, Tryd.ntmps19
  go_wp2_with fail
  go_loopw [5, 6] (fun v5 v6 wr => ∃ (i a : Nat), i ≤ n ∧ a ≤ t.size ∧ v6 = .int .i64 i ∧ v5 = .int .i64 a ∧ Hid (StI t l i a) ∧ Hid (Below w.heap.size w wr)) (fun _ v6 _ => n - (intOf v6).toNat)
  case atStart => exact ⟨0, 0, by omega, by omega, rfl, rfl, HS0, Lib.hid (Below.refl _ _)⟩
  case round =>
    clear HS0
    obtain ⟨i, a, hi, ha, rfl, rfl, HI, HX⟩ := hrel
    by_cases hlt : i < n
    · obtain ⟨g, off, rfl, hgw, hh⟩ := HR.out (by rw [HL.out]; omega)
      obtain ⟨s, hs⟩ : ∃ s, l[i]? = some s := ⟨_, List.getElem?_eq_getElem (by rw [HL.out]; exact hlt)⟩
      have e0 := cell_below HX.out (hh i s hs)
      have HSS := Lib.hid hs
      clear hh hs
      go_wp2_with fail
      go_loopw [5] (fun v5 wi => ∃ a : Nat, a ≤ t.size ∧ v5 = .int .i64 a ∧ Hid (StI t l i a) ∧ wi = wr) (fun v5 _ => t.size - (intOf v5).toNat)
      case atStart => exact ⟨a, ha, rfl, HI, rfl⟩
      case round =>
        clear HI ha
        obtain ⟨a, ha, rfl, HI, rfl⟩ := hrel
        by_cases hx : ∃ h : a < t.size, t[a] = 47
        · obtain ⟨hal, hx⟩ := hx
          have hb1 : ((t[a].toNat : Int) == 47) = true := by rw [hx]; rfl
          have HJ := Lib.hid (HI.out.skip hal hx)
          go_wp2_with fail
          go_roundw
          case rel => exact ⟨a + 1, by omega, by go_num, HJ, trivial⟩
          case measure => simp [intOf]; omega
        · obtain ⟨q1, q2, q3, q4, q5, q6⟩ := HI.out.part HSS.out (fun h e => hx ⟨h, e⟩)
          have HQ := Lib.hid (And.intro q4 (And.intro q5 q6))
          have hal : a < t.size := by omega
          have hb0 : ((t[a].toNat : Int) == 47) = false := byte_ne (fun e => hx ⟨hal, e⟩)
          clear q4 q5 q6 HI hx
          have hn0 : ((s.size : Int) == 0) = false := by rw [beq_eq_false_iff_ne]; omega
          have hgt : ((t.size : Int) - a < s.size) = False := by simp; omega
          have hw1 : IntKind.i64.wrap ((t.size : Int) - (a : Int)) = (t.size : Int) - (a : Int) := IntWalk.i64_in _ (by omega)
          have hw2 : IntKind.i64.wrap ((a : Int) + (s.size : Int)) = (a : Int) + (s.size : Int) := IntWalk.i64_in _ (by omega)
          have hsl : ∀ W : World, (Instr.slice 9 (.string t) (some (.int .i64 (a : Int))) (some (.int .i64 ((a : Int) + (s.size : Int)))) none).run Tryd.prog W = .ok (.string s) W := fun W => by
            rw [run_slice_string (P := Tryd.prog) W 9 t .i64 .i64 (a : Int) ((a : Int) + (s.size : Int)) Tryd.underlying9 (by omega) (by omega) (by omega), show ((a : Int) + (s.size : Int)).toNat = a + s.size by omega, show ((a : Int)).toNat = a by omega, q3]
          by_cases hl : a + s.size < t.size
          · have hl2 : ((a : Int) + s.size < t.size) = True := by simp; omega
            have hix : ∀ W : World, (Instr.index 9 (.string t) (.int .i64 ((a : Int) + (s.size : Int)))).run Tryd.prog W = .ok (.int .u8 47) W := fun W => by
              rw [run_index_string (P := Tryd.prog) (w := W) 9 t .i64 _ Tryd.underlying9, dif_pos (by omega)]
              have := HQ.out.1 hl
              simp only [show ((a : Int) + (s.size : Int)).toNat = a + s.size by omega, this]
              rfl
            go_wp2_with fail
            go_quiet (fail)
            have hX := Below.drewN HX.out nq
            have e1 := cell_below (Below.drewN (Below.refl wr.heap.size wr) nq) e0
            generalize wr.drewN nq = W2 at *
            have HX2 := Lib.hid hX
            clear hX
            go_wp2_with fail
            go_loopw [8] (fun v8 wi => ∃ j : Nat, j ≤ s.size ∧ v8 = .int .i64 j ∧ wi = W2) (fun v8 _ => s.size - (intOf v8).toNat)
            case atStart => exact ⟨0, by omega, rfl, rfl⟩
            case round =>
              obtain ⟨j, hj, rfl, rfl⟩ := hrel
              by_cases hjl : j < s.size
              · have hbj : ((s[j].toNat : Int) == 47) = false := byte_ne (fun e => HQ.out.2.1 (by rw [← e]; exact byte_mem s hjl))
                go_wp2_with fail
                go_roundw
                case rel => exact ⟨j + 1, by omega, by go_num, trivial⟩
                case measure => simp [intOf]; omega
              · obtain rfl : s.size = j := by omega
                go_wp2_with fail
                go_roundw
                case rel => exact ⟨i + 1, a + s.size, by omega, by omega, by go_num, by go_num, Lib.hid HQ.out.2.2, HX2⟩
                case measure => simp [intOf]; omega
          · have hl2 : ((a : Int) + s.size < t.size) = False := by simp; omega
            go_wp2_with fail
            go_quiet (fail)
            have hX := Below.drewN HX.out nq
            have e1 := cell_below (Below.drewN (Below.refl wr.heap.size wr) nq) e0
            generalize wr.drewN nq = W2 at *
            have HX2 := Lib.hid hX
            clear hX
            go_wp2_with fail
            go_loopw [8] (fun v8 wi => ∃ j : Nat, j ≤ s.size ∧ v8 = .int .i64 j ∧ wi = W2) (fun v8 _ => s.size - (intOf v8).toNat)
            case atStart => exact ⟨0, by omega, rfl, rfl⟩
            case round =>
              obtain ⟨j, hj, rfl, rfl⟩ := hrel
              by_cases hjl : j < s.size
              · have hbj : ((s[j].toNat : Int) == 47) = false := byte_ne (fun e => HQ.out.2.1 (by rw [← e]; exact byte_mem s hjl))
                go_wp2_with fail
                go_roundw
                case rel => exact ⟨j + 1, by omega, by go_num, trivial⟩
                case measure => simp [intOf]; omega
              · obtain rfl : s.size = j := by omega
                go_wp2_with fail
                go_roundw
                case rel => exact ⟨i + 1, a + s.size, by omega, by omega, by go_num, by go_num, Lib.hid HQ.out.2.2, HX2⟩
                case measure => simp [intOf]; omega
    · obtain rfl : i = n := by omega
      go_wp2_with fail
      go_loopw [5] (fun v5 wi => ∃ a : Nat, a ≤ t.size ∧ v5 = .int .i64 a ∧ Hid (StI t l i a) ∧ wi = wr) (fun v5 _ => t.size - (intOf v5).toNat)
      case atStart => exact ⟨a, ha, rfl, HI, rfl⟩
      case round =>
        clear HI ha
        obtain ⟨a, ha, rfl, HI, rfl⟩ := hrel
        by_cases hx : ∃ h : a < t.size, t[a] = 47
        · obtain ⟨hal, hx⟩ := hx
          have hb1 : ((t[a].toNat : Int) == 47) = true := by rw [hx]; rfl
          have HJ := Lib.hid (HI.out.skip hal hx)
          go_wp2_with fail
          go_roundw
          case rel => exact ⟨a + 1, by omega, by go_num, HJ, trivial⟩
          case measure => simp [intOf]; omega
        · have hl := HI.out.last (by rw [HL.out]; exact Nat.le_refl _) (fun h e => hx ⟨h, e⟩)
          obtain rfl : t.size = a := by omega
          clear HI hx
          go_wp2_with fail
          go_ret
          exact ⟨by simp, HX.out⟩

end Go.Proofs.YtpombeiabgbpiaaDoor
