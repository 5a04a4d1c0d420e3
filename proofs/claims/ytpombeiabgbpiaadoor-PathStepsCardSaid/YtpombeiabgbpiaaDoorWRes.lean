/-
path.Resolve and path.Parent over whatever directories answer; a table as such directories.
-/
import Derived.Test.YtpombeiabgbpiaaDoorWWalk
namespace Go.Proofs.YtpombeiabgbpiaaDoor
open Go.RowKit

/-- Resolve's answer: inode, directory, error -/
def resF (lk : Int → ByteArray → Int × Bool) (l : List ByteArray) (b : Bool) : Int × Bool × Int :=
  if (wkF lk rootW l).2 ≠ 0 then (0, false, (wkF lk rootW l).2)
  else if b = true ∧ (wkF lk rootW l).1.2 = false then (0, false, 144)
  else ((wkF lk rootW l).1.1, (wkF lk rootW l).1.2, 0)
/-- what lies in J, and how it changed -/
def DPost (J : List (Int × ByteArray) → World → Prop) (fp : World → Nat → Prop) (ro : Prop) (qs : List (Int × ByteArray)) (w w' : World) : Prop :=
  J qs w' ∧ Chg (fun b => ¬ ro ∧ fp w b) w w' ∧ ∀ b, fp w' b → fp w b ∨ w.heap.size ≤ b
theorem DPost.below {F : Nat} {p : Addr} {lk : Int → ByteArray → Int × Bool} {J : List (Int × ByteArray) → World → Prop} {fp : World → Nat → Prop} {ro : Prop} {qs : List (Int × ByteArray)} {w W W' : World} (D : DirsAt F p lk J fp ro) (h : DPost J fp ro qs w W) (hb : Below W.heap.size W W') : DPost J fp ro qs w W' := by
  obtain ⟨hj, hf⟩ := D.keep qs W W' h.1 (fun b hf => hb.block b (D.lt _ _ _ h.1 hf))
  exact ⟨hj, h.2.1.trans (Chg.of_below (fun _ => False) hb) (fun _ _ h => h.elim), fun b hb => h.2.2 b ((hf b).1 hb)⟩
theorem DPost.ahead {F : Nat} {p : Addr} {lk : Int → ByteArray → Int × Bool} {J : List (Int × ByteArray) → World → Prop} {fp : World → Nat → Prop} {ro : Prop} {qs q0 : List (Int × ByteArray)} {w w1 W : World} (D : DirsAt F p lk J fp ro) (h0 : J q0 w) (hb : Below w.heap.size w w1) (h : DPost J fp ro qs w1 W) : DPost J fp ro qs w W := by
  obtain ⟨hj, hf⟩ := D.keep q0 w w1 h0 (fun b hf => hb.block b (D.lt _ _ _ h0 hf))
  refine ⟨h.1, (Chg.of_below _ hb).trans h.2.1 (fun x hx hd => ⟨hd.1, (hf x).1 hd.2⟩), fun b hb1 => ?_⟩
  rcases h.2.2 b hb1 with h1 | h1
  · exact .inl ((hf b).1 h1)
  · exact .inr (Nat.le_trans hb.size h1)

set_option maxRecDepth 100000 in
set_option maxHeartbeats 4000000 in
/-- Resolve -/
theorem resolve_any (w : World) (p : Addr) (lk : Int → ByteArray → Int × Bool) (J : List (Int × ByteArray) → World → Prop) (fp : World → Nat → Prop) (ro : Prop) (D : DirsAt 25 p lk J fp ro) (qs0 : List (Int × ByteArray)) (hJ : J qs0 w)
    (v : Value) (l : List ByteArray) (b : Bool) (hr : RdS w v l) (hro : ∀ b off n c, v = .slice (some ⟨b, off, none⟩) n c → ¬ (¬ ro ∧ fp w b)) (hlen : l.length + 1 ≤ 8796093022208) (hnm : ∀ s ∈ l, s.size ≤ maxLen) :
    Calls Tryd.prog 23 #[.iface 36 (.pointer (some p)), .agg #[v, .bool b]] w fun e w' => e = .returned (.tuple #[.int .i64 (resF lk l b).1, .bool (resF lk l b).2.1, .int .i64 (resF lk l b).2.2]) ∧ DPost J fp ro (qs0 ++ wkA lk rootW l) w w' := by
  have hb1 : Below w.heap.size w (w.alloc (.cells #[v, .bool b] 25)) := (Below.refl _ _).alloc (Nat.le_refl _) _
  obtain ⟨hj1, hf1⟩ := D.keep qs0 w _ hJ (fun b hf => hb1.block b (D.lt _ _ _ hJ hf))
  have HW := Lib.hid (walk_any _ p lk J fp ro D qs0 hj1 v l (hr.below hb1) (fun g off n c e h => hro g off n c e ⟨h.1, (hf1 _).1 h.2⟩) hlen hnm)
  have HA : Hid (∀ W, DPost J fp ro (qs0 ++ wkA lk rootW l) (w.alloc (.cells #[v, .bool b] 25)) W → DPost J fp ro (qs0 ++ wkA lk rootW l) w W) := fun W h => h.ahead D hJ hb1
  have HBX : Hid (∀ W, DPost J fp ro (qs0 ++ wkA lk rootW l) (w.alloc (.cells #[v, .bool b] 25)) W → W.heap[w.heap.size]? = some (.cells #[v, .bool b] 25 (0, 0))) := fun W h =>
    h.2.1.heap (heap_alloc_new w _) (fun hd => by have := D.lt _ _ _ hJ ((hf1 _).1 hd.2); omega)
  have HD := Lib.hid D
  obtain ⟨R, hR⟩ : ∃ R, resF lk l b = R := ⟨_, rfl⟩
  have HR := Lib.hid hR
  rw [hR]
  clear hR hb1 hj1 hf1 hr hro hnm D
  unfold resF at HR
  obtain ⟨S, hS⟩ : ∃ S, wkF lk rootW l = S := ⟨_, rfl⟩
  rw [hS] at HR HW
  obtain ⟨⟨s1, s2⟩, s3⟩ := S
  clear hS
  simp only at HR HW
  go_enter Tryd.func23, Tryd.ntmps23
  go_wp2_with fail
  refine HW.out.mono ?_
  rintro e W ⟨rfl, hp⟩
  have HP := Lib.hid (show DPost J fp ro (qs0 ++ wkA lk rootW l) (w.alloc (.cells #[v, .bool b] 25)) W from hp)
  have hbx := HBX.out W hp
  have c0 : W.cell? ⟨w.heap.size, 0, none⟩ = some v := by rw [cell_of_row _ _ _ _ _ _ hbx]; rfl
  have c1 : W.cell? ⟨w.heap.size, 1, none⟩ = some (.bool b) := by rw [cell_of_row _ _ _ _ _ _ hbx]; rfl
  have hlt := heap_lt hbx
  clear hp hbx
  have HF : Hid (∀ o, DPost J fp ro (qs0 ++ wkA lk rootW l) w (W.alloc o)) := fun o => (HA.out _ HP.out).below HD.out ((Below.refl _ _).alloc (Nat.le_refl _) _)
  have HFD : Hid (∀ o, DPost J fp ro (qs0 ++ wkA lk rootW l) w (W.alloc o).drew) := fun o => (HA.out _ HP.out).below HD.out (((Below.refl _ _).alloc (Nat.le_refl _) _).drew)
  by_cases h3 : s3 = 0
  · subst h3
    cases b
    · obtain rfl : R = (s1, s2, 0) := by rw [← HR.out]; simp
      go_wp2_with fail
      go_region
      go_wp2_with fail
      go_ret3
      exact ⟨rfl, HFD.out _⟩
    · cases s2
      · obtain rfl : R = (0, false, 144) := by rw [← HR.out]; simp
        go_wp2_with fail
        go_ret3
        exact ⟨rfl, HF.out _⟩
      · obtain rfl : R = (s1, true, 0) := by rw [← HR.out]; simp
        go_wp2_with fail
        go_region
        go_wp2_with fail
        go_ret3
        exact ⟨rfl, HFD.out _⟩
  · obtain rfl : R = (0, false, s3) := by rw [← HR.out, if_pos h3]
    go_wp2_with fail
    go_ret3
    exact ⟨rfl, HF.out _⟩

/-- does a path end in dots, or nowhere? -/
def endD (l : List ByteArray) : Bool := decide (l.getLast? = none ∨ l.getLast? = some dot1 ∨ l.getLast? = some dot2)
/-- Parent's answer: directory, name, error -/
def parF (lk : Int → ByteArray → Int × Bool) (l : List ByteArray) : Int × ByteArray × Int :=
  if endD l = true then (0, ByteArray.empty, 145)
  else if (wkF lk rootW l.dropLast).2 ≠ 0 then (0, ByteArray.empty, (wkF lk rootW l.dropLast).2)
  else if (wkF lk rootW l.dropLast).1.2 = false then (0, ByteArray.empty, 144)
  else ((wkF lk rootW l.dropLast).1.1, l.getLastD ByteArray.empty, 0)
def parA (lk : Int → ByteArray → Int × Bool) (l : List ByteArray) : List (Int × ByteArray) := if endD l = true then [] else wkA lk rootW l.dropLast
theorem endD_snoc (l : List ByteArray) (s : ByteArray) : endD (l ++ [s]) = decide (s = dot1 ∨ s = dot2) := by simp [endD]
theorem RdS.take {w : World} {A : Option Addr} {n c : Nat} {l : List ByteArray} (h : RdS w (.slice A n c) l) (m : Nat) (hm : m ≤ l.length) : RdS w (.slice A m c) (l.take m) := by
  obtain ⟨A', c', e, h1, h2, h3⟩ := h
  injection e with e1 e2 e3
  subst e1 e2 e3
  refine ⟨A, c, by rw [List.length_take, Nat.min_eq_left hm], by rw [List.length_take]; omega, h2, fun h0 => ?_⟩
  rw [List.length_take] at h0
  obtain ⟨b, off, e, hb, hh⟩ := h3 (by omega)
  refine ⟨b, off, e, hb, fun i s hs => hh i s ?_⟩
  rw [List.getElem?_take] at hs
  split at hs
  · exact hs
  · cases hs
theorem DPost.start {F : Nat} {p : Addr} {lk : Int → ByteArray → Int × Bool} {J : List (Int × ByteArray) → World → Prop} {fp : World → Nat → Prop} {ro : Prop} {qs : List (Int × ByteArray)} {w W : World} (D : DirsAt F p lk J fp ro) (h : J qs w) (hb : Below w.heap.size w W) : DPost J fp ro qs w W := by
  obtain ⟨hj, hf⟩ := D.keep qs w W h (fun b hf => hb.block b (D.lt _ _ _ h hf))
  exact ⟨hj, Chg.of_below _ hb, fun b hb => .inl ((hf b).1 hb)⟩

set_option maxRecDepth 100000 in
set_option maxHeartbeats 4000000 in
/-- Parent -/
theorem parent_any (w : World) (p : Addr) (lk : Int → ByteArray → Int × Bool) (J : List (Int × ByteArray) → World → Prop) (fp : World → Nat → Prop) (ro : Prop) (D : DirsAt 25 p lk J fp ro) (qs0 : List (Int × ByteArray)) (hJ : J qs0 w)
    (v : Value) (l : List ByteArray) (b : Bool) (hr : RdS w v l) (hro : ∀ b off n c, v = .slice (some ⟨b, off, none⟩) n c → ¬ (¬ ro ∧ fp w b)) (hlen : l.length + 1 ≤ 8796093022208) (hnm : ∀ s ∈ l, s.size ≤ maxLen) :
    Calls Tryd.prog 27 #[.iface 36 (.pointer (some p)), .agg #[v, .bool b]] w fun e w' => e = .returned (.tuple #[.int .i64 (parF lk l).1, .string (parF lk l).2.1, .int .i64 (parF lk l).2.2]) ∧ DPost J fp ro (qs0 ++ parA lk l) w w' := by
  have hb1 : Below w.heap.size w (w.alloc (.cells #[v, .bool b] 25)) := (Below.refl _ _).alloc (Nat.le_refl _) _
  obtain ⟨hj1, hf1⟩ := D.keep qs0 w _ hJ (fun b hf => hb1.block b (D.lt _ _ _ hJ hf))
  obtain ⟨R, hR⟩ : ∃ R, parF lk l = R := ⟨_, rfl⟩
  have HR := Lib.hid hR
  rw [hR]
  clear hR
  obtain ⟨A, c, rfl, h1, h2, h3⟩ := hr
  have hcm : c ≤ 9223372036854775807 := maxLen_eq ▸ h2
  rcases List.eq_nil_or_concat l with rfl | ⟨pre, s, rfl⟩
  · obtain rfl : R = (0, ByteArray.empty, 145) := by rw [← HR.out]; rfl
    have HP := Lib.hid (show DPost J fp ro (qs0 ++ parA lk []) w (w.alloc (.cells #[.slice A 0 c, .bool b] 25)) by
      rw [show parA lk [] = [] from rfl, List.append_nil]
      exact DPost.start D hJ hb1)
    clear D hJ hro hnm hj1 hf1 hb1 HR h3
    go_enter Tryd.func27, Tryd.ntmps27
    go_wp2_with fail
    go_ret3
    exact ⟨rfl, HP.out⟩
  · rw [List.concat_eq_append] at *
    obtain ⟨n, hn⟩ : ∃ n, pre.length = n := ⟨_, rfl⟩
    obtain ⟨g, off, rfl, hbw, hh⟩ := h3 (by simp)
    have d0 := cell_below hb1 (hh n s (by rw [← hn]; simp))
    have hgw : g < (w.alloc (.cells #[.slice (some ⟨g, off, none⟩) (pre ++ [s]).length c, .bool b] 25)).heap.size := by simp; omega
    have hw := walk_any _ p lk J fp ro D qs0 hj1 (.slice (some ⟨g, off, none⟩) n c) pre (by
      have hrd : RdS w (.slice (some ⟨g, off, none⟩) (pre ++ [s]).length c) (pre ++ [s]) := ⟨_, _, rfl, h1, h2, h3⟩
      have := (hrd.below hb1).take n (by rw [← hn]; simp)
      rwa [List.take_left' hn] at this) (fun g' off' n' c' e h => hro g' off' _ c' (by injection e with e1 e2 e3; rw [e1, e3]) ⟨h.1, (hf1 _).1 h.2⟩) (by simp at hlen; omega) (fun s hs => hnm s (by simp [hs]))
    have hl2 : (pre ++ [s]).length = n + 1 := by simp [hn]
    have HBX : Hid (∀ W qs, DPost J fp ro qs (w.alloc (.cells #[.slice (some ⟨g, off, none⟩) (n + 1) c, .bool b] 25)) W → W.heap[w.heap.size]? = some (.cells #[.slice (some ⟨g, off, none⟩) (n + 1) c, .bool b] 25 (0, 0))) := fun W qs h =>
      h.2.1.heap (heap_alloc_new w _) (fun hd => by rw [← hl2] at hd; have := D.lt _ _ _ hJ ((hf1 _).1 hd.2); omega)
    rw [hl2] at hw d0 hgw h1 hb1 ⊢
    have HA : Hid (∀ W qs, DPost J fp ro qs (w.alloc (.cells #[.slice (some ⟨g, off, none⟩) (n + 1) c, .bool b] 25)) W → DPost J fp ro qs w W) := fun W qs h => h.ahead D hJ hb1
    have HD := Lib.hid D
    have HE := Lib.hid (DPost.start D hJ hb1)
    have HW := Lib.hid hw
    clear hw hf1 hj1 hb1 D hJ h3 hh hro hnm
    by_cases hs : s = dot1 ∨ s = dot2
    · obtain rfl : R = (0, ByteArray.empty, 145) := by rw [← HR.out, parF, endD_snoc, if_pos (by simpa using hs)]
      have HP : Hid (qs0 ++ parA lk (pre ++ [s]) = qs0) := by rw [parA, endD_snoc, if_pos (by simpa using hs), List.append_nil]; exact Lib.hid rfl
      rw [HP.out]
      clear HR HW
      rcases hs with rfl | rfl
      · unfold dot1 at d0
        go_enter Tryd.func27, Tryd.ntmps27
        go_wp2_with fail
        go_ret3
        exact ⟨rfl, HE.out⟩
      · unfold dot2 at d0
        go_enter Tryd.func27, Tryd.ntmps27
        go_wp2_with fail
        go_ret3
        exact ⟨rfl, HE.out⟩
    · have e1 : (s.toList == [46]) = false := ne_lit (fun e => hs (.inl e))
      have e2 : (s.toList == [46, 46]) = false := ne_lit (fun e => hs (.inr e))
      have HR2 : Hid ((if (wkF lk rootW pre).2 ≠ 0 then (0, ByteArray.empty, (wkF lk rootW pre).2) else if (wkF lk rootW pre).1.2 = false then (0, ByteArray.empty, 144) else ((wkF lk rootW pre).1.1, s, 0)) = R) := by
        have := HR.out
        rw [parF, endD_snoc, if_neg (by simpa using hs)] at this
        simpa using Lib.hid this
      have HP : Hid (parA lk (pre ++ [s]) = wkA lk rootW pre) := by
        rw [parA, endD_snoc, if_neg (by simpa using hs), List.dropLast_concat]; exact Lib.hid rfl
      rw [HP.out]
      clear HR HP
      obtain ⟨S, hS⟩ : ∃ S, wkF lk rootW pre = S := ⟨_, rfl⟩
      rw [hS] at HR2 HW
      obtain ⟨⟨s1, s2⟩, s3⟩ := S
      clear hS
      simp only at HR2 HW
      go_enter Tryd.func27, Tryd.ntmps27
      go_wp2_with fail
      refine HW.out.mono ?_
      rintro e W ⟨rfl, hp⟩
      have HPP := Lib.hid (show DPost J fp ro (qs0 ++ wkA lk rootW pre) (w.alloc (.cells #[.slice (some ⟨g, off, none⟩) (n + 1) c, .bool b] 25)) W from hp)
      have hbx := HBX.out W _ hp
      have c0 : W.cell? ⟨w.heap.size, 0, none⟩ = some (.slice (some ⟨g, off, none⟩) (n + 1) c) := by rw [cell_of_row _ _ _ _ _ _ hbx]; rfl
      have hlt := heap_lt hbx
      clear hp hbx
      have HF : Hid (∀ o, DPost J fp ro (qs0 ++ wkA lk rootW pre) w (W.alloc o)) := fun o => (HA.out _ _ HPP.out).below HD.out ((Below.refl _ _).alloc (Nat.le_refl _) _)
      by_cases h3 : s3 = 0
      · subst h3
        cases s2
        · obtain rfl : R = (0, ByteArray.empty, 144) := by rw [← HR2.out]; simp
          go_wp2_with fail
          go_ret3
          exact ⟨rfl, HF.out _⟩
        · obtain rfl : R = (s1, s, 0) := by rw [← HR2.out]; simp
          go_wp2_with fail
          go_ret3
          exact ⟨rfl, HF.out _⟩
      · obtain rfl : R = (0, ByteArray.empty, s3) := by rw [← HR2.out, if_pos h3]
        go_wp2_with fail
        go_ret3
        exact ⟨rfl, HF.out _⟩

/-- a table at t, its map at mb -/
def TabM (t mb : Nat) (l : List EdgeV) (W : World) : Prop := ∃ n, W.heap[t]? = some (.cells #[.map (some mb)] 81 (0, 0)) ∧ MapT W mb n l
theorem TabM.tab {W : World} {t mb : Nat} {l : List EdgeV} (h : TabM t mb l W) : TabT W t l := by
  obtain ⟨n, h1, h2⟩ := h
  exact ⟨mb, n, h1, h2⟩
theorem lookT_wf {l : List EdgeV} (h : ∀ e ∈ l, e.Ok) (d : Int) (s : ByteArray) : (Lit.int .i64 (lookT l d s).1).wf = true := by
  suffices ∀ (l : List EdgeV) (a : Int × Bool), (∀ e ∈ l, e.Ok) → (Lit.int .i64 a.1).wf = true → (Lit.int .i64 (l.foldl (fun a e => if 1 ≤ e.2.2.1 ∧ e.1 = d ∧ e.2.1 = s then (e.2.2.1, e.2.2.2) else a) a).1).wf = true from this l (0, false) h (by decide)
  intro l
  induction l with
  | nil => exact fun a _ h => h
  | cons e l ih =>
    intro a hl ha
    refine ih _ (fun x hx => hl x (List.mem_cons_of_mem _ hx)) ?_
    simp only
    split
    · exact (hl e (List.mem_cons_self ..)).2.2
    · exact ha
theorem TabM.dirs (t mb : Nat) (l : List EdgeV) (hl : ∀ e ∈ l, e.Ok) : DirsAt 25 ⟨t, 0, none⟩ (lookT l) (fun _ W => TabM t mb l W) (fun _ b => b = t ∨ b = mb) True where
  look _ W d s h hd hs := by
    refine (look_any W t l h.tab d s hd hs).mono ?_
    rintro e W' ⟨rfl, hb⟩
    obtain ⟨n, h1, h2⟩ := h
    exact ⟨rfl, ⟨n, (hb.block _ (heap_lt h1)).trans h1, h2.kept (hb.block _ h2.lt)⟩, Chg.of_below _ hb, fun _ => .inl⟩
  lt _ W b h hb := by
    obtain ⟨n, h1, h2⟩ := h
    rcases hb with rfl | rfl
    · exact heap_lt h1
    · exact h2.lt
  keep _ W W' h hk := by
    obtain ⟨n, h1, h2⟩ := h
    exact ⟨⟨n, (hk t (.inl rfl)).trans h1, h2.kept (hk mb (.inr rfl))⟩, fun _ => Iff.rfl⟩
  wf := lookT_wf hl

theorem DPost.bel {J : List (Int × ByteArray) → World → Prop} {fp : World → Nat → Prop} {qs : List (Int × ByteArray)} {w w' : World} (h : DPost J fp True qs w w') : Below w.heap.size w w' := h.2.1.below _ (Nat.le_refl _) (fun _ _ h => h.1 trivial)
/-- Resolve of a table -/
theorem resolve_tab (w : World) (t : Nat) (es : List EdgeV) (ht : TabT w t es) (hes : ∀ e ∈ es, e.Ok) (v : Value) (l : List ByteArray) (b : Bool) (hr : RdS w v l) (hlen : l.length + 1 ≤ 8796093022208) (hnm : ∀ s ∈ l, s.size ≤ maxLen) :
    Calls Tryd.prog 23 #[.iface 36 (.pointer (some ⟨t, 0, none⟩)), .agg #[v, .bool b]] w fun e w' => e = .returned (.tuple #[.int .i64 (resF (lookT es) l b).1, .bool (resF (lookT es) l b).2.1, .int .i64 (resF (lookT es) l b).2.2]) ∧ Below w.heap.size w w' := by
  obtain ⟨mb, n, h1, h2⟩ := ht
  refine (resolve_any w ⟨t, 0, none⟩ _ _ _ True (TabM.dirs t mb es hes) [] ⟨n, h1, h2⟩ v l b hr (fun _ _ _ _ _ h => h.1 trivial) hlen hnm).mono ?_
  rintro e w' ⟨rfl, h⟩
  exact ⟨rfl, h.bel⟩
/-- Parent of a table -/
theorem parent_tab (w : World) (t : Nat) (es : List EdgeV) (ht : TabT w t es) (hes : ∀ e ∈ es, e.Ok) (v : Value) (l : List ByteArray) (b : Bool) (hr : RdS w v l) (hlen : l.length + 1 ≤ 8796093022208) (hnm : ∀ s ∈ l, s.size ≤ maxLen) :
    Calls Tryd.prog 27 #[.iface 36 (.pointer (some ⟨t, 0, none⟩)), .agg #[v, .bool b]] w fun e w' => e = .returned (.tuple #[.int .i64 (parF (lookT es) l).1, .string (parF (lookT es) l).2.1, .int .i64 (parF (lookT es) l).2.2]) ∧ Below w.heap.size w w' := by
  obtain ⟨mb, n, h1, h2⟩ := ht
  refine (parent_any w ⟨t, 0, none⟩ _ _ _ True (TabM.dirs t mb es hes) [] ⟨n, h1, h2⟩ v l b hr (fun _ _ _ _ _ h => h.1 trivial) hlen hnm).mono ?_
  rintro e w' ⟨rfl, h⟩
  exact ⟨rfl, h.bel⟩

end Go.Proofs.YtpombeiabgbpiaaDoor
