/-
  The contract of not, out of that of rep.
-/
import Derived.Test.YtfljcfdfgojdoaaGreatDoorSb07
namespace Go.Proofs.YtfljcfdfgojdoaaGreatDoor
open Go.RowKit Go.Lib

set_option maxRecDepth 100000 in
set_option maxHeartbeats 2000000 in
theorem not_calls {T : List Tok} {D : Nat → Prop} {rep : Nat → Nat → R} (hup : ∀ d, D d → D (d + 1)) (hrep : Parses T 207 D rep) : ∀ f, Parses T 177 (fun d => D d ∧ 33 ≤ f + d) (notM rep T f) := by
  intro f
  induction f with
  | zero =>
    intro bp bt cap a dep w hD h
    have := h.dle
    omega
  | succ f ih =>
    intro bp bt cap a dep w hD h
    have hbp := h.bp_lt
    have hbt := h.inb
    have h0 : Pz T bp bt cap a dep (w.alloc (.cells reZ 33)) := h.below ((Below.refl _ _).alloc (Nat.le_refl _) _)
    cases hi : isB (tokAt T a) [33]
    · have HI := hid hi
      rcases hx : rep a dep with ⟨p, y⟩ | ⟨r, a1⟩
      · have hm := hid (show notM rep T (f + 1) a dep = .error (p, y) by simp only [notM, hi, hx, Bool.false_eq_true, if_false])
        have HX := hid hx
        clear hx hi ih
        go_enter Tryz.func177, Tryz.ntmps177
        go_wp2_with (first | (go_at_call 150; refine (is_any h0 _).mono ?_; rintro e w1 ⟨rfl, hb⟩; rw [HI.out]; have hz1 := h0.below hb) | (go_at_call 207; refine (hrep bp bt cap _ _ _ hD.1 hz1).mono ?_; rintro e w2 hp; obtain ⟨hk2, rfl⟩ := hp.bad HX.out))
        exact ⟨rfl, RePost.mk_bad hm.out (((Kept.refl bp w).alloc _).trans ((Kept.of_below hb).trans hk2)) rfl⟩
      · have hm := hid (show notM rep T (f + 1) a dep = .ok (r, a1) by simp only [notM, hi, hx, Bool.false_eq_true, if_false])
        have HX := hid hx
        clear hx hi ih
        go_enter Tryz.func177, Tryz.ntmps177
        go_wp2_with (first | (go_at_call 150; refine (is_any h0 _).mono ?_; rintro e w1 ⟨rfl, hb⟩; rw [HI.out]; have hz1 := h0.below hb) | (go_at_call 207; refine (hrep bp bt cap _ _ _ hD.1 hz1).mono ?_; rintro e w2 hp; obtain ⟨hk2, hl2, hz2, cs, rfl, hr⟩ := hp.good HX.out; obtain ⟨kk, x, s, ad, n, cap2, mn, mx, rfl⟩ := hr.cells; have hz2' := hz2.below ((Below.refl _ _).alloc (Nat.le_refl _) (.cells (reC kk x s (.slice ad n cap2) mn mx) 33)); have hbq := hz2.bp_lt) | (refine wpList_store_blk rfl 33 (.tmp 2) (.tmp 8) rfl 9 info27 w.heap.size 33 reZ ?hg rfl (reC kk x s (.slice ad n cap2) mn mx) rfl rfl rfl rfl ?_))
        case hg => exact fin_blk ((Kept.of_below hb).trans hk2) hbp
        refine bodyPost_ret (results_cell_row rfl _ _ w.heap.size 33 _ (0, 0) _ rfl (setRow_heap (fin_blk ((Kept.of_below hb).trans hk2) hbp) _) Tryz.underlying33 rfl info27) rfl ?_
        exact fin_re hm.out ((Kept.of_below hb).trans hk2) (hz2) hbp hbt (hl2) (hr.up (by have := hb.size; simp at this; omega))
    · have HI := hid hi
      by_cases hd : dep = 32
      · subst hd
        have hm := hid (show notM rep T (f + 1) a 32 = .error ((tokAt T a).pos, 8) by simp only [notM, hi, if_true])
        clear hi ih
        go_enter Tryz.func177, Tryz.ntmps177
        go_wp2_with (first | (go_at_call 150; refine (is_any h0 _).mono ?_; rintro e w1 ⟨rfl, hb⟩; rw [HI.out]; have hz1 := h0.below hb) | (go_at_call 208; refine (enter_no hz1).mono ?_; rintro e w2 ⟨rfl, hb2⟩))
        exact ⟨rfl, RePost.mk_bad hm.out (((Kept.refl bp w).alloc _).trans ((Kept.of_below hb).trans (Kept.of_below hb2))) rfl⟩
      · have hkd := isB_kind hi
        have hD1 : D (dep + 1) ∧ 33 ≤ f + (dep + 1) := ⟨hup _ hD.1, by have := hD.2; omega⟩
        rcases hx : notM rep T f (a + 1) (dep + 1) with ⟨p, y⟩ | ⟨r, a1⟩
        · have hm := hid (show notM rep T (f + 1) a dep = .error (p, y) by simp only [notM, hi, hd, hx, if_false, if_true])
          have HX := hid hx
          have IH := hid ih
          clear hx hi ih
          go_enter Tryz.func177, Tryz.ntmps177
          go_wp2_with (first | (go_at_call 150; refine (is_any h0 _).mono ?_; rintro e w1 ⟨rfl, hb⟩; rw [HI.out]; have hz1 := h0.below hb) | (go_at_call 208; refine (enter_yes hz1 hkd hd).mono ?_; rintro e w2 ⟨rfl, hk2, hz2⟩) | (go_at_call 177; refine (IH.out bp bt cap _ _ _ hD1 hz2).mono ?_; rintro e w3 hp; obtain ⟨hk3, rfl⟩ := hp.bad HX.out))
          exact ⟨rfl, RePost.mk_bad hm.out (((Kept.refl bp w).alloc _).trans ((Kept.of_below hb).trans (hk2.trans hk3))) rfl⟩
        · have hm := hid (show notM rep T (f + 1) a dep = .ok (.mk 7 [] Se.none [r] 0 0, a1) by simp only [notM, hi, hd, hx, if_false, if_true])
          have HX := hid hx
          have IH := hid ih
          clear hx hi ih
          go_enter Tryz.func177, Tryz.ntmps177
          go_wp2_with (first | (go_at_call 150; refine (is_any h0 _).mono ?_; rintro e w1 ⟨rfl, hb⟩; rw [HI.out]; have hz1 := h0.below hb) | (go_at_call 208; refine (enter_yes hz1 hkd hd).mono ?_; rintro e w2 ⟨rfl, hk2, hz2⟩) | (go_at_call 177; refine (IH.out bp bt cap _ _ _ hD1 hz2).mono ?_; rintro e w3 hp; obtain ⟨hk3, hl3, hz3, cs, rfl, hr⟩ := hp.good HX.out; obtain ⟨kk, x, s, ad, n, cap2, mn, mx, rfl⟩ := hr.cells; have hz3' := hz3.below ((Below.refl _ _).alloc (Nat.le_refl _) (.cells (reC kk x s (.slice ad n cap2) mn mx) 33)); have hbq := hz3.bp_lt) | (go_at_call 209; refine (leave_any hz3').mono ?_; rintro e w4 ⟨rfl, hk4, hz4⟩) | (refine wpList_load_blk rfl 33 (.tmp 3) rfl 9 info27 _ Tryz.underlying33 rfl w3.heap.size rfl 33 (reC kk x s (.slice ad n cap2) mn mx) ?hl rfl ?_) | (refine wpList_store_blk rfl 33 (.tmp 2) (.tmp 17) rfl 9 info27 w.heap.size 33 reZ ?hg rfl (reC 7 [] Se.none (.slice (some ⟨w4.heap.size, 0, none⟩) [r].length 1) 0 0) rfl rfl rfl rfl ?_))
          case hl => exact fin_blk hk4 hbq
          case hg => exact fin_blk (((Kept.of_below hb).trans (hk2.trans (hk3.trans (((Kept.refl bp w3).alloc _).trans hk4)))).alloc _) hbp
          refine bodyPost_ret (results_cell_row rfl _ _ w.heap.size 33 _ (0, 0) _ rfl (setRow_heap (fin_blk (((Kept.of_below hb).trans (hk2.trans (hk3.trans (((Kept.refl bp w3).alloc _).trans hk4)))).alloc _) hbp) _) Tryz.underlying33 rfl info27) rfl ?_
          exact fin_re hm.out (((Kept.of_below hb).trans (hk2.trans (hk3.trans (((Kept.refl bp w3).alloc _).trans hk4)))).alloc _) (hz4.below ((Below.refl _ _).alloc (Nat.le_refl _) _)) hbp hbt (by omega) (Rs.node (Rs.single (hr.kept (((Kept.refl bp w3).alloc _).trans hk4) (by have := hz2.bp_lt; omega) (by have := hb.size; have := hk2.size; simp at *; omega)) (by have := ((Kept.of_below hb).trans (hk2.trans (hk3.trans (((Kept.refl bp w3).alloc _).trans hk4)))).size; simpa using this)) 7 [] Se.none _ _)

set_option maxRecDepth 100000 in
set_option maxHeartbeats 2000000 in
theorem atom_calls {T : List Tok} {D : Nat → Prop} {alt : Nat → Nat → R} (halt : Parses T 52 D alt) : Parses T 229 (fun d => D (d + 1)) (atomM notNone alt T) := by
  intro bp bt cap a dep w hD h
  have hbp := h.bp_lt
  have hbt := h.inb
  have h0 : Pz T bp bt cap a dep (w.alloc (.cells reZ 33)) := h.below ((Below.refl _ _).alloc (Nat.le_refl _) _)
  cases hi : isB (tokAt T a) [40]
  · have HI := hid hi
    rcases hx : leafM notNone T a with ⟨p, y⟩ | ⟨r, a1⟩
    · have hm := hid (show atomM notNone alt T a dep = .error (p, y) by simp only [atomM, hi, hx, Bool.false_eq_true, if_false])
      have HX := hid hx
      clear hx hi
      go_enter Tryz.func229, Tryz.ntmps229
      go_wp2_with (first | (go_at_call 150; refine (is_any h0 _).mono ?_; rintro e w1 ⟨rfl, hb⟩; rw [HI.out]; have hz1 := h0.below hb) | (go_at_call 210; refine (leaf_any hz1).mono ?_; rintro e w2 hp; obtain ⟨hk2, rfl⟩ := hp.bad HX.out))
      exact ⟨rfl, RePost.mk_bad hm.out (((Kept.refl bp w).alloc _).trans ((Kept.of_below hb).trans hk2)) rfl⟩
    · have hm := hid (show atomM notNone alt T a dep = .ok (r, a1) by simp only [atomM, hi, hx, Bool.false_eq_true, if_false])
      have HX := hid hx
      clear hx hi
      go_enter Tryz.func229, Tryz.ntmps229
      go_wp2_with (first | (go_at_call 150; refine (is_any h0 _).mono ?_; rintro e w1 ⟨rfl, hb⟩; rw [HI.out]; have hz1 := h0.below hb) | (go_at_call 210; refine (leaf_any hz1).mono ?_; rintro e w2 hp; obtain ⟨hk2, hl2, hz2, cs, rfl, hr⟩ := hp.good HX.out; obtain ⟨kk, x, s, ad, n, cap2, mn, mx, rfl⟩ := hr.cells) | (refine wpList_store_blk rfl 33 (.tmp 2) (.tmp 8) rfl 9 info27 w.heap.size 33 reZ ?hg rfl (reC kk x s (.slice ad n cap2) mn mx) rfl rfl rfl rfl ?_))
      case hg => exact fin_blk ((Kept.of_below hb).trans hk2) hbp
      refine bodyPost_ret (results_cell_row rfl _ _ w.heap.size 33 _ (0, 0) _ rfl (setRow_heap (fin_blk ((Kept.of_below hb).trans hk2) hbp) _) Tryz.underlying33 rfl info27) rfl ?_
      exact fin_re hm.out ((Kept.of_below hb).trans hk2) (hz2) hbp hbt (hl2) (hr.up (by have := hb.size; simp at this; omega))
  · have HI := hid hi
    by_cases hd : dep = 32
    · subst hd
      have hm := hid (show atomM notNone alt T a 32 = .error ((tokAt T a).pos, 8) by simp only [atomM, hi, if_true])
      clear hi
      go_enter Tryz.func229, Tryz.ntmps229
      go_wp2_with (first | (go_at_call 150; refine (is_any h0 _).mono ?_; rintro e w1 ⟨rfl, hb⟩; rw [HI.out]; have hz1 := h0.below hb) | (go_at_call 208; refine (enter_no hz1).mono ?_; rintro e w2 ⟨rfl, hb2⟩))
      exact ⟨rfl, RePost.mk_bad hm.out (((Kept.refl bp w).alloc _).trans ((Kept.of_below hb).trans (Kept.of_below hb2))) rfl⟩
    · have hkd := isB_kind hi
      rcases hx : alt (a + 1) (dep + 1) with ⟨p, y⟩ | ⟨r, a1⟩
      · have hm := hid (show atomM notNone alt T a dep = .error (p, y) by simp only [atomM, hi, hd, hx, if_false, if_true])
        have HX := hid hx
        clear hx hi
        go_enter Tryz.func229, Tryz.ntmps229
        go_wp2_with (first | (go_at_call 150; refine (is_any h0 _).mono ?_; rintro e w1 ⟨rfl, hb⟩; rw [HI.out]; have hz1 := h0.below hb) | (go_at_call 208; refine (enter_yes hz1 hkd hd).mono ?_; rintro e w2 ⟨rfl, hk2, hz2⟩) | (go_at_call 52; refine (halt bp bt cap _ _ _ hD hz2).mono ?_; rintro e w3 hp; obtain ⟨hk3, rfl⟩ := hp.bad HX.out))
        exact ⟨rfl, RePost.mk_bad hm.out (((Kept.refl bp w).alloc _).trans ((Kept.of_below hb).trans (hk2.trans hk3))) rfl⟩
      · cases hc : isB (tokAt T a1) [41]
        · have hm := hid (show atomM notNone alt T a dep = .error ((tokAt T a1).pos, 4) by simp only [atomM, hi, hd, hx, hc, Bool.false_eq_true, if_false, if_true])
          have HX := hid hx
          clear hx hi
          go_enter Tryz.func229, Tryz.ntmps229
          go_wp2_with (first | (go_at_call 150; refine (is_any h0 _).mono ?_; rintro e w1 ⟨rfl, hb⟩; rw [HI.out]; have hz1 := h0.below hb) | (go_at_call 208; refine (enter_yes hz1 hkd hd).mono ?_; rintro e w2 ⟨rfl, hk2, hz2⟩) | (go_at_call 52; refine (halt bp bt cap _ _ _ hD hz2).mono ?_; rintro e w3 hp; obtain ⟨hk3, hl3, hz3, cs, rfl, hr⟩ := hp.good HX.out; obtain ⟨kk, x, s, ad, n, cap2, mn, mx, rfl⟩ := hr.cells; have hz3' := hz3.below ((Below.refl _ _).alloc (Nat.le_refl _) (.cells (reC kk x s (.slice ad n cap2) mn mx) 33)); have hbq := hz3.bp_lt) | (go_at_call 123; refine (need_no hz3' _ hc).mono ?_; rintro e w4 ⟨rfl, hb4⟩))
          exact ⟨rfl, RePost.mk_bad hm.out (((Kept.refl bp w).alloc _).trans ((Kept.of_below hb).trans (hk2.trans (hk3.trans (((Kept.refl bp w3).alloc _).trans (Kept.of_below hb4)))))) rfl⟩
        · have hm := hid (show atomM notNone alt T a dep = .ok (r, a1 + 1) by simp only [atomM, hi, hd, hx, hc, if_false, if_true])
          have HX := hid hx
          clear hx hi
          go_enter Tryz.func229, Tryz.ntmps229
          go_wp2_with (first | (go_at_call 150; refine (is_any h0 _).mono ?_; rintro e w1 ⟨rfl, hb⟩; rw [HI.out]; have hz1 := h0.below hb) | (go_at_call 208; refine (enter_yes hz1 hkd hd).mono ?_; rintro e w2 ⟨rfl, hk2, hz2⟩) | (go_at_call 52; refine (halt bp bt cap _ _ _ hD hz2).mono ?_; rintro e w3 hp; obtain ⟨hk3, hl3, hz3, cs, rfl, hr⟩ := hp.good HX.out; obtain ⟨kk, x, s, ad, n, cap2, mn, mx, rfl⟩ := hr.cells; have hz3' := hz3.below ((Below.refl _ _).alloc (Nat.le_refl _) (.cells (reC kk x s (.slice ad n cap2) mn mx) 33)); have hbq := hz3.bp_lt) | (go_at_call 123; refine (need_yes hz3' _ hc).mono ?_; rintro e w4 ⟨rfl, hk4, hz4⟩) | (go_at_call 209; refine (leave_any hz4).mono ?_; rintro e w5 ⟨rfl, hk5, hz5⟩) | (refine wpList_load_blk rfl 33 (.tmp 3) rfl 9 info27 _ Tryz.underlying33 rfl w3.heap.size rfl 33 (reC kk x s (.slice ad n cap2) mn mx) ?hl rfl ?_) | (refine wpList_store_blk rfl 33 (.tmp 2) (.tmp 17) rfl 9 info27 w.heap.size 33 reZ ?hg rfl (reC kk x s (.slice ad n cap2) mn mx) rfl rfl rfl rfl ?_))
          case hl => exact fin_blk (hk4.trans hk5) hbq
          case hg => exact fin_blk ((Kept.of_below hb).trans (hk2.trans (hk3.trans (((Kept.refl bp w3).alloc _).trans (hk4.trans hk5))))) hbp
          refine bodyPost_ret (results_cell_row rfl _ _ w.heap.size 33 _ (0, 0) _ rfl (setRow_heap (fin_blk ((Kept.of_below hb).trans (hk2.trans (hk3.trans (((Kept.refl bp w3).alloc _).trans (hk4.trans hk5))))) hbp) _) Tryz.underlying33 rfl info27) rfl ?_
          exact fin_re hm.out ((Kept.of_below hb).trans (hk2.trans (hk3.trans (((Kept.refl bp w3).alloc _).trans (hk4.trans hk5))))) (hz5) hbp hbt (by omega) (hr.kept (((Kept.refl bp w3).alloc _).trans (hk4.trans hk5)) (by have := hz2.bp_lt; omega) (by have := hb.size; have := hk2.size; simp at *; omega))
end Go.Proofs.YtfljcfdfgojdoaaGreatDoor
