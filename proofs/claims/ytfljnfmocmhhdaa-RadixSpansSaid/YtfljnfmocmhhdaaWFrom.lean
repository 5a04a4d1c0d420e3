/-
From of a tree of ints: the iterator's contract.
-/
import Derived.Test.YtfljnfmocmhhdaaWInner
namespace Go.Proofs.Ytfljnfmocmhhdaa
open Go.RowKit Go.Shelf
attribute [local go_sem] Oper.semAt_some

theorem walk_root (F : Fence) (h53 : F.fn 53) (hro : F.round = none) (hd : F.depth = none) (l s c : Nat) (off : Int) (xs : List (Nat × Int)) (J Jx : List (Nat × Int) → World → Prop)
    (hY : ∀ m pre x W, J pre W → pre ++ [x] <+: xs → s + c ≤ W.heap.size → YieldAt F m Try.prog l (encI x) W (YPost J Jx s c (pre ++ [x]) W))
    (ho1 : -9223372036854775808 ≤ off) (ho2 : off ≤ 9223372036854775807)
    (n : Nat) (f : Nat → Int) (pre : List (Nat × Int)) (W : World) (hc : Cp2 f c W s) (hJ : J pre W) (hx : pre ++ items f 0 off 512 <+: xs) (hsz : s + c ≤ W.heap.size) :
    CallsIn F n Try.prog 53 #[.pointer (some ⟨s, 0, none⟩), .int .i64 0, .int .i64 64, .int .i64 off, .func (.yield l) #[] #[]] W (WPost J Jx s c pre (items f 0 off 512) W) := by
  obtain ⟨p, cs, hn, hcs, hh⟩ := hc
  refine walk_inner_64 F h53 hro hd l s c off xs J Jx ho1 ho2 n s 0 p (fun _ => 0) f pre W hn (Nat.le_refl _) (by omega) hJ hx (by omega) (fun k hk hp i hi => ?_) (fun k g' hk hp m pre' W' hJ' hx' hz' hk' => ?_)
  · rcases hh k hk with ⟨_, _, h⟩ | ⟨h, _⟩
    · exact h i hi
    · rw [hp] at h; cases h
  · have htk := tot_lt cs hk
    rcases hh k hk with ⟨h, _, _⟩ | ⟨h, h1⟩
    · rw [hp] at h; cases h
    · rw [hp] at h
      obtain rfl := Option.some.inj h
      obtain ⟨p1, cs1, hn1, hcs1, hh1⟩ := h1.kept (w' := W') (fun x h3 h4 => hk' x (by omega) (by omega))
      have e : ((0 : Nat) : Int) + (k : Int) * 64 = ((0 + 64 * k : Nat) : Int) := by omega
      rw [e]
      refine walk_inner_8 F h53 hro hd l s c off xs J Jx ho1 ho2 m _ (0 + 64 * k) p1 (fun _ => 0) (fun i => f (64 * k + i)) pre' W' hn1 (by omega) (by omega) hJ' hx' (by omega) (fun i hi hpi x hxx => ?_) (fun i g2 hi hpi m2 pre2 W2 hJ2 hx2 hz2 hk2 => ?_)
      · rcases hh1 i hi with ⟨_, _, h⟩ | ⟨h, _⟩
        · exact h x hxx
        · rw [hpi] at h; cases h
      · have hti := tot_lt cs1 hi
        rcases hh1 i hi with ⟨h, _, _⟩ | ⟨h, h0, h2⟩
        · rw [hpi] at h; cases h
        · rw [hpi] at h
          obtain rfl := Option.some.inj h
          have e2 : ((0 + 64 * k : Nat) : Int) + (i : Int) * 8 = ((0 + 64 * k + 8 * i : Nat) : Int) := by omega
          rw [e2]
          exact walk_leaf F h53 hro hd l s c off xs J Jx hY ho1 ho2 m2 _ _ _ pre2 W2 (h2.same (hk2 _ (by omega) (by omega))) (by omega) (by omega) hJ2 hx2 (by omega) (by omega)

/-- From: the receiver and the offset are boxed; the function value captures the boxes -/
theorem from_any (w : World) (r : Nat) (off : Int) :
    Calls Try.prog 18 #[.pointer (some ⟨r, 0, none⟩), .int .i64 off] w fun e w' => e = .returned (.func (.func 51) #[] #[.pointer (some ⟨w.heap.size + 1, 0, none⟩), .pointer (some ⟨w.heap.size, 0, none⟩)]) ∧
      w' = (w.alloc (.cells #[.pointer (some ⟨r, 0, none⟩)] 25)).alloc (.cells #[.int .i64 off] 3) := by
  go_enter Try.func18, Try.ntmps18
  go_wp2_with fail
  go_ret
  exact ⟨rfl, rfl⟩

set_option maxRecDepth 100000 in
set_option maxHeartbeats 2000000 in
theorem from1_any (W : World) (r : Nat) (f : Nat → Int) (lb : Nat → Nat) (g0 : Nat) (L1 L2 : Nat → Option Nat) (h : ShapeI W r f lb g0 L1 L2) (off : Int) (ho1 : -9223372036854775808 ≤ off) (ho2 : off < 512) (bo bt : Nat)
    (hbo : W.cell? ⟨bo, 0, none⟩ = some (.int .i64 off)) (hbt : W.cell? ⟨bt, 0, none⟩ = some (.pointer (some ⟨r, 0, none⟩))) (l : Nat) (J Jx : List (Nat × Int) → World → Prop) (xs : List (Nat × Int)) (hxs : xs = items f 0 off 512)
    (hJs : ∀ pre A B, J pre A → Below A.heap.size A B → J pre B)
    (hY : ∀ m pre x W1, J pre W1 → pre ++ [x] <+: xs → W.heap.size + nodes L1 L2 ≤ W1.heap.size → YieldAt Fence.wide m Try.prog l (encI x) W1 (YPost J Jx W.heap.size (nodes L1 L2) (pre ++ [x]) W1)) (hJ : J [] W) (n : Nat) :
    CallsIn Fence.wide n Try.prog 51 #[.func (.yield l) #[] #[], .pointer (some ⟨bo, 0, none⟩), .pointer (some ⟨bt, 0, none⟩)] W fun e W' => (∃ v, e = .returned v) ∧ (J xs W' ∨ ∃ pre, pre <+: xs ∧ Jx pre W') := by
  have c0 : W.cell? ⟨r, 0, none⟩ = some (.pointer (some ⟨g0, 0, none⟩)) := by rw [cell_of_row W _ _ _ _ _ h.hdr]; rfl
  have HCp := Lib.hid (fun (W2 : World) (hb : Below W.heap.size W W2) => copied_root W2 r f lb g0 L1 L2 (h.chg (Chg.of_below (fun _ => False) hb) (fun _ _ h => h)))
  have HY := Lib.hid hY
  have HJ := Lib.hid hJ
  have HJs := Lib.hid hJs
  have bcell : ∀ W2, Below W.heap.size W W2 → W2.cell? ⟨bo, 0, none⟩ = some (.int .i64 off) := fun W2 hb => (hb.cell (World.block_lt_of_cell? W _ hbo)).trans hbo
  have HB := Lib.hid bcell
  have HW := Lib.hid (fun (n : Nat) (W2 : World) (hc : Cp2 f (nodes L1 L2) W2 W.heap.size) (hb : Below W.heap.size W W2) (hz : W2.heap.size = W.heap.size + nodes L1 L2) =>
    (callsIn_wide.1 (walk_root Fence.wide trivial rfl rfl l W.heap.size (nodes L1 L2) off xs J Jx HY.out ho1 (by omega) n f [] W2 hc (HJs.out _ _ _ HJ.out hb) (by rw [hxs]; exact List.prefix_refl _) (by omega))).mono
      (fun e W3 h => show ∃ b, e = .returned (.bool b) ∧ (J xs W3 ∨ ∃ pre, pre <+: xs ∧ Jx pre W3) from h.elim (fun ⟨he, h3, _⟩ => ⟨true, he, .inl (by rw [hxs]; exact h3)⟩) (fun ⟨he, q, hq, h3⟩ => ⟨false, he, .inr ⟨q, by rw [hxs]; exact hq, h3⟩⟩)))
  have HXS := Lib.hid hxs
  clear h hY hJ hJs bcell hxs
  refine callsIn_wide.2 ?_
  go_enter Try.func51, Try.ntmps51
  go_wp2_with fail
  go_region_with (first | (go_at_call 52; refine (HCp.out _ (Below.refl _ _).drew).mono ?_; rintro e W2 ⟨rfl, hb2, hz2, hc2⟩; have hcb := HB.out W2 ((Below.refl W.heap.size W).drew.trans hb2)) | (go_at_call 53; refine (HW.out 0 _ hc2 ((Below.refl W.heap.size W).drew.trans hb2) hz2).mono ?_; rintro e W3 ⟨b3, rfl, h3⟩))
  all_goals (go_end0; exact ⟨⟨_, rfl⟩, h3⟩)

theorem from1_out (W : World) (off : Int) (ho2 : 512 ≤ off) (bo bt : Nat) (hbo : W.cell? ⟨bo, 0, none⟩ = some (.int .i64 off)) (l : Nat) (n : Nat) (J : World → Prop) (hJ : J W) :
    CallsIn Fence.wide n Try.prog 51 #[.func (.yield l) #[] #[], .pointer (some ⟨bo, 0, none⟩), .pointer (some ⟨bt, 0, none⟩)] W fun e W' => (∃ v, e = .returned v) ∧ J W' := by
  have HJ := Lib.hid hJ
  clear hJ
  refine callsIn_wide.2 ?_
  go_enter Try.func51, Try.ntmps51
  go_wp2_with fail
  go_end0
  exact ⟨⟨_, rfl⟩, HJ.out⟩

/-- **the iterator that From hands back** -/
theorem from_gives (w : World) (r : Nat) (f : Nat → Int) (lb : Nat → Nat) (h : TreeI w r f lb) (off : Int) (ho1 : -9223372036854775808 ≤ off) (bo bt : Nat)
    (hbo : w.cell? ⟨bo, 0, none⟩ = some (.int .i64 off)) (hbt : w.cell? ⟨bt, 0, none⟩ = some (.pointer (some ⟨r, 0, none⟩))) :
    ∃ c, ∀ n, Gives Fence.wide n Try.prog 51 #[.pointer (some ⟨bo, 0, none⟩), .pointer (some ⟨bt, 0, none⟩)] encI c (items f 0 off 512) w := by
  obtain ⟨g0, L1, L2, hs⟩ := h
  refine ⟨nodes L1 L2, fun n l J Jx W hW hJs hJxs hY hJ => ?_⟩
  have hbo' := (hW.cell (World.block_lt_of_cell? w _ hbo)).trans hbo
  have hbt' := (hW.cell (World.block_lt_of_cell? w _ hbt)).trans hbt
  have hd : Fence.wide.depth = none := rfl
  have any : ∀ m m' args R, YieldAt Fence.wide m Try.prog l args W R → YieldAt Fence.wide m' Try.prog l args W R := fun m m' args R hy => by
    obtain ⟨fn, tmps, assign, body, h1, h2⟩ := hy
    exact ⟨fn, tmps, assign, body, h1, h2.1, fun c cs _ => h2.2 c cs (room_wide _)⟩
  by_cases ho : off < 512
  · have hs' := hs.chg (Chg.of_below (fun _ => False) hW) (fun _ _ h => h)
    refine from1_any W r f lb g0 L1 L2 hs' off ho1 ho bo bt hbo' hbt' l J Jx _ rfl hJs (fun m pre x W1 h1 h2 h3 => ?_) hJ n
    obtain ⟨fn, tmps, assign, body, hy, hR⟩ := hY pre x W1 h1 h2 h3
    refine ⟨fn, tmps, assign, body, hy, hR.1, fun c cs _ => ?_⟩
    have := hR.2 c cs (room_wide _)
    exact this
  · rw [items_none _ _ _ _ (.inl (by simp; omega))]
    refine (from1_out W off (by omega) bo bt hbo' l n (J []) hJ).mono ?_
    rintro e W' ⟨hv, hj⟩
    exact ⟨hv, .inl hj⟩

end Go.Proofs.Ytfljnfmocmhhdaa
