/-
  The contract of rep, out of that of atom.
  The contract of not, out of that of rep.
-/
import Derived.Test.YtfljcfdfgojdoaaGreatDoorAa05
namespace Go.Proofs.YtfljcfdfgojdoaaGreatDoor
open Go.RowKit Go.Lib

theorem numberM_ok {T : List Tok} {a : Nat} {lo hi : Int} {a' : Nat} (h : numberM T a lo = .ok (hi, a')) : ((tokAt T a).kind != 5) = false ∧ lo ≤ (tokAt T a).num ∧ (tokAt T a).num ≤ 64 ∧ hi = (tokAt T a).num ∧ a' = a + 1 := by
  unfold numberM at h
  simp only at h
  split at h
  · cases h
  · rename_i hn
    cases h
    refine ⟨by simpa using (fun hh => hn (.inl hh)), Int.not_lt.1 (fun hh => hn (.inr (.inl hh))), Int.not_lt.1 (fun hh => hn (.inr (.inr hh))), rfl, rfl⟩
theorem number_le {T : List Tok} {bp bt cap a dep : Nat} {w : World} (h : Pz T bp bt cap a dep w) (least : Int) (h1 : ((tokAt T a).kind != 5) = false) (h2 : least ≤ (tokAt T a).num) (h3 : (tokAt T a).num ≤ 64) :
    Calls Tryz.prog 230 #[.pointer (some ⟨bp, 0, none⟩), .int .i64 least] w fun e w' => e = .returned (.int .i64 (tokAt T a).num) ∧ Kept bp w w' ∧ Pz T bp bt cap (a + 1) dep w' :=
  number_ok h least h1 (Int.not_lt.2 h2) (Int.not_lt.2 h3)
theorem numberM_bad {T : List Tok} {a : Nat} {lo : Int} {p : Int × Int} (h : numberM T a lo = .error p) : (((tokAt T a).kind != 5) = true ∨ (tokAt T a).num < lo ∨ 64 < (tokAt T a).num) ∧ p = ((tokAt T a).pos, 4) := by
  unfold numberM at h
  simp only at h
  split at h
  · rename_i hn; cases h; exact ⟨hn, rfl⟩
  · cases h

set_option maxRecDepth 100000 in
set_option maxHeartbeats 2000000 in
theorem rep_any {T : List Tok} {D : Nat → Prop} {atom : Nat → Nat → R} (hatom : Parses T 229 D atom) : Parses T 207 D (repM atom T) := by
  intro bp bt cap a dep w hD h
  have hbp := h.bp_lt
  have hbt := h.inb
  have h0 : Pz T bp bt cap a dep (w.alloc (.cells reZ 33)) := h.below ((Below.refl _ _).alloc (Nat.le_refl _) _)
  rcases hx : atom a dep with ⟨p, y⟩ | ⟨r, a1⟩
  · have hm := hid (show repM atom T a dep = .error (p, y) by simp only [repM, hx])
    have HX := hid hx
    clear hx
    go_enter Tryz.func207, Tryz.ntmps207
    go_wp2_with (go_at_call 229; refine (hatom bp bt cap a dep _ hD h0).mono ?_; rintro e w1 hp; obtain ⟨hk1, rfl⟩ := hp.bad HX.out)
    exact ⟨rfl, RePost.mk_bad hm.out (((Kept.refl bp w).alloc _).trans hk1) rfl⟩
  · have HX := hid hx
    cases ho : (oftenM T a1).ok
    · have hnx := often_next ho
      cases hb : isB (tokAt T a1) [123]
      · have hm := hid (show repM atom T a dep = .ok (r, a1) by simp only [repM, hx, ho, hb, Bool.false_eq_true, if_false])
        have HO := hid ho
        clear hx ho
        go_enter Tryz.func207, Tryz.ntmps207
        go_wp2_with (first | (go_at_call 229; refine (hatom bp bt cap a dep _ hD h0).mono ?_; rintro e w1 hp; obtain ⟨hk1, hl1, hz1, cs, rfl, hr1⟩ := hp.good HX.out; obtain ⟨kk, x, s, ad, n, cap2, mn, mx, rfl⟩ := hr1.cells; have hz1' := hz1.below ((Below.refl _ _).alloc (Nat.le_refl _) (.cells (reC kk x s (.slice ad n cap2) mn mx) 33)); have hb1 := hz1.bp_lt) | (go_at_call 179; refine (often_any hz1').mono ?_; rintro e w2 ⟨rfl, hk2, hz2⟩; simp only [HO.out]) | (go_at_call_of 118 (Value.string ⟨#[123]⟩); refine (take_no (hnx ▸ hz2) _ hb).mono ?_; rintro e w3 ⟨rfl, hb3⟩) | (refine wpList_load_blk rfl 33 (.tmp 3) rfl 9 info27 _ Tryz.underlying33 rfl w1.heap.size rfl 33 (reC kk x s (.slice ad n cap2) mn mx) ?hl rfl ?_) | (refine wpList_store_blk rfl 33 (.tmp 2) (.tmp 33) rfl 9 info27 w.heap.size 33 reZ ?hg rfl (reC kk x s (.slice ad n cap2) mn mx) rfl rfl rfl rfl ?_))
        case hl => exact fin_blk (hk2.trans (Kept.of_below hb3)) hb1
        case hg => exact fin_blk ((hk1.trans (((Kept.refl bp w1).alloc _).trans hk2)).trans (Kept.of_below hb3)) hbp
        refine bodyPost_ret (results_cell_row rfl _ _ w.heap.size 33 _ (0, 0) _ rfl (setRow_heap (fin_blk ((hk1.trans (((Kept.refl bp w1).alloc _).trans hk2)).trans (Kept.of_below hb3)) hbp) _) Tryz.underlying33 rfl info27) rfl ?_
        exact fin_re hm.out ((hk1.trans (((Kept.refl bp w1).alloc _).trans hk2)).trans (Kept.of_below hb3)) (((hnx ▸ hz2 : Pz T bp bt cap a1 dep w2).below hb3)) hbp hbt (hl1) ((hr1.kept (((Kept.refl bp w1).alloc _).trans (hk2.trans (Kept.of_below hb3))) (by simp; omega) (by simp)))
      · rcases hn1 : numberM T (a1 + 1) 0 with p | ⟨lo, a2⟩
        · obtain ⟨hbad, rfl⟩ := numberM_bad hn1
          have hm := hid (show repM atom T a dep = .error ((tokAt T (a1 + 1)).pos, 4) by simp only [repM, hx, ho, hb, hn1, Bool.false_eq_true, if_false, if_true])
          have HO := hid ho
          clear hx ho hn1
          go_enter Tryz.func207, Tryz.ntmps207
          go_wp2_with (first | (go_at_call 229; refine (hatom bp bt cap a dep _ hD h0).mono ?_; rintro e w1 hp; obtain ⟨hk1, hl1, hz1, cs, rfl, hr1⟩ := hp.good HX.out; obtain ⟨kk, x, s, ad, n, cap2, mn, mx, rfl⟩ := hr1.cells; have hz1' := hz1.below ((Below.refl _ _).alloc (Nat.le_refl _) (.cells (reC kk x s (.slice ad n cap2) mn mx) 33)); have hb1 := hz1.bp_lt) | (go_at_call 179; refine (often_any hz1').mono ?_; rintro e w2 ⟨rfl, hk2, hz2⟩; simp only [HO.out]) | (go_at_call_of 118 (Value.string ⟨#[123]⟩); refine (take_yes (hnx ▸ hz2) _ hb).mono ?_; rintro e w3 ⟨rfl, hk3, hz3⟩) | (go_at_call 230; refine (number_bad hz3 _ hbad).mono ?_; rintro e w4 ⟨rfl, hb4⟩))
          exact ⟨rfl, RePost.mk_bad hm.out (((Kept.refl bp w).alloc _).trans ((hk1.trans (((Kept.refl bp w1).alloc _).trans hk2)).trans (hk3.trans (Kept.of_below hb4)))) rfl⟩
        · obtain ⟨n1, n2, n3, rfl, rfl⟩ := numberM_ok hn1
          cases hc : isB (tokAt T (a1 + 1 + 1)) [44]
          · cases hd : isB (tokAt T (a1 + 1 + 1)) [125]
            · have hm := hid (show repM atom T a dep = .error ((tokAt T (a1 + 1 + 1)).pos, 4) by simp only [repM, hx, ho, hb, hn1, hc, hd, Bool.false_eq_true, if_false, if_true])
              have HO := hid ho
              clear hx ho hn1 
              go_enter Tryz.func207, Tryz.ntmps207
              go_wp2_with (first | (go_at_call 229; refine (hatom bp bt cap a dep _ hD h0).mono ?_; rintro e w1 hp; obtain ⟨hk1, hl1, hz1, cs, rfl, hr1⟩ := hp.good HX.out; obtain ⟨kk, x, s, ad, n, cap2, mn, mx, rfl⟩ := hr1.cells; have hz1' := hz1.below ((Below.refl _ _).alloc (Nat.le_refl _) (.cells (reC kk x s (.slice ad n cap2) mn mx) 33)); have hb1 := hz1.bp_lt) | (go_at_call 179; refine (often_any hz1').mono ?_; rintro e w2 ⟨rfl, hk2, hz2⟩; simp only [HO.out]) | (go_at_call_of 118 (Value.string ⟨#[123]⟩); refine (take_yes (hnx ▸ hz2) _ hb).mono ?_; rintro e w3 ⟨rfl, hk3, hz3⟩) | (go_at_call 230; (with_reducible refine (number_le hz3 _ n1 n2 n3).mono ?_); rintro e w4 ⟨rfl, hk4, hz4⟩) | (go_at_call_of 118 (Value.string ⟨#[44]⟩); refine (take_no hz4 _ hc).mono ?_; rintro e w5 ⟨rfl, hb5⟩) | (go_at_call 123; refine (need_no (hz4.below hb5) _ hd).mono ?_; rintro e w6 ⟨rfl, hb6⟩))
              exact ⟨rfl, RePost.mk_bad hm.out (((Kept.refl bp w).alloc _).trans ((hk1.trans (((Kept.refl bp w1).alloc _).trans hk2)).trans (hk3.trans (hk4.trans ((Kept.of_below hb5).trans (Kept.of_below hb6)))))) rfl⟩
            · have hm := hid (show repM atom T a dep = .ok (.mk 8 [] Se.none [r] ((tokAt T (a1 + 1)).num) ((tokAt T (a1 + 1)).num), a1 + 1 + 1 + 1) by simp only [repM, hx, ho, hb, hn1, hc, hd, Bool.false_eq_true, if_false, if_true])
              have HO := hid ho
              clear hx ho hn1 
              go_enter Tryz.func207, Tryz.ntmps207
              go_wp2_with (first | (go_at_call 229; refine (hatom bp bt cap a dep _ hD h0).mono ?_; rintro e w1 hp; obtain ⟨hk1, hl1, hz1, cs, rfl, hr1⟩ := hp.good HX.out; obtain ⟨kk, x, s, ad, n, cap2, mn, mx, rfl⟩ := hr1.cells; have hz1' := hz1.below ((Below.refl _ _).alloc (Nat.le_refl _) (.cells (reC kk x s (.slice ad n cap2) mn mx) 33)); have hb1 := hz1.bp_lt) | (go_at_call 179; refine (often_any hz1').mono ?_; rintro e w2 ⟨rfl, hk2, hz2⟩; simp only [HO.out]) | (go_at_call_of 118 (Value.string ⟨#[123]⟩); refine (take_yes (hnx ▸ hz2) _ hb).mono ?_; rintro e w3 ⟨rfl, hk3, hz3⟩) | (go_at_call 230; (with_reducible refine (number_le hz3 _ n1 n2 n3).mono ?_); rintro e w4 ⟨rfl, hk4, hz4⟩) | (go_at_call_of 118 (Value.string ⟨#[44]⟩); refine (take_no hz4 _ hc).mono ?_; rintro e w5 ⟨rfl, hb5⟩) | (go_at_call 123; refine (need_yes (hz4.below hb5) _ hd).mono ?_; rintro e w6 ⟨rfl, hk6, hz6⟩) | (refine wpList_load_blk rfl 33 (.tmp 3) rfl 9 info27 _ Tryz.underlying33 rfl w1.heap.size rfl 33 (reC kk x s (.slice ad n cap2) mn mx) ?hl rfl ?_) | (refine wpList_store_blk rfl 33 (.tmp 2) (.tmp 38) rfl 9 info27 w.heap.size 33 reZ ?hg rfl (reC 8 [] Se.none (.slice (some ⟨w6.heap.size, 0, none⟩) [r].length 1) ((tokAt T (a1 + 1)).num) ((tokAt T (a1 + 1)).num)) rfl rfl rfl rfl ?_))
              case hl => exact fin_blk (hk2.trans (hk3.trans (hk4.trans ((Kept.of_below hb5).trans hk6)))) hb1
              case hg => exact fin_blk (((hk1.trans (((Kept.refl bp w1).alloc _).trans hk2)).trans (hk3.trans (hk4.trans ((Kept.of_below hb5).trans hk6)))).alloc _) hbp
              refine bodyPost_ret (results_cell_row rfl _ _ w.heap.size 33 _ (0, 0) _ rfl (setRow_heap (fin_blk (((hk1.trans (((Kept.refl bp w1).alloc _).trans hk2)).trans (hk3.trans (hk4.trans ((Kept.of_below hb5).trans hk6)))).alloc _) hbp) _) Tryz.underlying33 rfl info27) rfl ?_
              exact fin_re hm.out (((hk1.trans (((Kept.refl bp w1).alloc _).trans hk2)).trans (hk3.trans (hk4.trans ((Kept.of_below hb5).trans hk6)))).alloc _) (hz6.below ((Below.refl _ _).alloc (Nat.le_refl _) _)) hbp hbt (by omega) (Rs.node (Rs.single ((hr1.kept (((Kept.refl bp w1).alloc _).trans (hk2.trans (hk3.trans (hk4.trans ((Kept.of_below hb5).trans hk6))))) (by simp; omega) (by simp))) (by have := ((hk1.trans (((Kept.refl bp w1).alloc _).trans hk2)).trans (hk3.trans (hk4.trans ((Kept.of_below hb5).trans hk6)))).size; simpa using this)) 8 [] Se.none _ _)
          · rcases hn2 : numberM T (a1 + 1 + 1 + 1) (tokAt T (a1 + 1)).num with p | ⟨hi, a3⟩
            · obtain ⟨hbad, rfl⟩ := numberM_bad hn2
              have hm := hid (show repM atom T a dep = .error ((tokAt T (a1 + 1 + 1 + 1)).pos, 4) by simp only [repM, hx, ho, hb, hn1, hc, hn2, Bool.false_eq_true, if_false, if_true])
              have HO := hid ho
              clear hx ho hn1 hn2
              go_enter Tryz.func207, Tryz.ntmps207
              go_wp2_with (first | (go_at_call 229; refine (hatom bp bt cap a dep _ hD h0).mono ?_; rintro e w1 hp; obtain ⟨hk1, hl1, hz1, cs, rfl, hr1⟩ := hp.good HX.out; obtain ⟨kk, x, s, ad, n, cap2, mn, mx, rfl⟩ := hr1.cells; have hz1' := hz1.below ((Below.refl _ _).alloc (Nat.le_refl _) (.cells (reC kk x s (.slice ad n cap2) mn mx) 33)); have hb1 := hz1.bp_lt) | (go_at_call 179; refine (often_any hz1').mono ?_; rintro e w2 ⟨rfl, hk2, hz2⟩; simp only [HO.out]) | (go_at_call_of 118 (Value.string ⟨#[123]⟩); refine (take_yes (hnx ▸ hz2) _ hb).mono ?_; rintro e w3 ⟨rfl, hk3, hz3⟩) | (go_at_call 230; (with_reducible refine (number_le hz3 _ n1 n2 n3).mono ?_); rintro e w4 ⟨rfl, hk4, hz4⟩) | (go_at_call_of 118 (Value.string ⟨#[44]⟩); refine (take_yes hz4 _ hc).mono ?_; rintro e w5 ⟨rfl, hk5, hz5⟩) | (go_at_call 230; (with_reducible refine (number_bad hz5 _ hbad).mono ?_); rintro e w6 ⟨rfl, hb6⟩))
              exact ⟨rfl, RePost.mk_bad hm.out (((Kept.refl bp w).alloc _).trans ((hk1.trans (((Kept.refl bp w1).alloc _).trans hk2)).trans (hk3.trans (hk4.trans (hk5.trans (Kept.of_below hb6)))))) rfl⟩
            · obtain ⟨m1, m2, m3, rfl, rfl⟩ := numberM_ok hn2
              cases hd : isB (tokAt T (a1 + 1 + 1 + 1 + 1)) [125]
              · have hm := hid (show repM atom T a dep = .error ((tokAt T (a1 + 1 + 1 + 1 + 1)).pos, 4) by simp only [repM, hx, ho, hb, hn1, hc, hn2, hd, Bool.false_eq_true, if_false, if_true])
                have HO := hid ho
                clear hx ho hn1 hn2
                go_enter Tryz.func207, Tryz.ntmps207
                go_wp2_with (first | (go_at_call 229; refine (hatom bp bt cap a dep _ hD h0).mono ?_; rintro e w1 hp; obtain ⟨hk1, hl1, hz1, cs, rfl, hr1⟩ := hp.good HX.out; obtain ⟨kk, x, s, ad, n, cap2, mn, mx, rfl⟩ := hr1.cells; have hz1' := hz1.below ((Below.refl _ _).alloc (Nat.le_refl _) (.cells (reC kk x s (.slice ad n cap2) mn mx) 33)); have hb1 := hz1.bp_lt) | (go_at_call 179; refine (often_any hz1').mono ?_; rintro e w2 ⟨rfl, hk2, hz2⟩; simp only [HO.out]) | (go_at_call_of 118 (Value.string ⟨#[123]⟩); refine (take_yes (hnx ▸ hz2) _ hb).mono ?_; rintro e w3 ⟨rfl, hk3, hz3⟩) | (go_at_call 230; (with_reducible refine (number_le hz3 _ n1 n2 n3).mono ?_); rintro e w4 ⟨rfl, hk4, hz4⟩) | (go_at_call_of 118 (Value.string ⟨#[44]⟩); refine (take_yes hz4 _ hc).mono ?_; rintro e w5 ⟨rfl, hk5, hz5⟩) | (go_at_call 230; (with_reducible refine (number_le hz5 _ m1 m2 m3).mono ?_); rintro e w6 ⟨rfl, hk6, hz6⟩) | (go_at_call 123; refine (need_no hz6 _ hd).mono ?_; rintro e w7 ⟨rfl, hb7⟩))
                exact ⟨rfl, RePost.mk_bad hm.out (((Kept.refl bp w).alloc _).trans ((hk1.trans (((Kept.refl bp w1).alloc _).trans hk2)).trans (hk3.trans (hk4.trans (hk5.trans (hk6.trans (Kept.of_below hb7))))))) rfl⟩
              · have hm := hid (show repM atom T a dep = .ok (.mk 8 [] Se.none [r] ((tokAt T (a1 + 1)).num) ((tokAt T (a1 + 1 + 1 + 1)).num), a1 + 1 + 1 + 1 + 1 + 1) by simp only [repM, hx, ho, hb, hn1, hc, hn2, hd, Bool.false_eq_true, if_false, if_true])
                have HO := hid ho
                clear hx ho hn1 hn2
                go_enter Tryz.func207, Tryz.ntmps207
                go_wp2_with (first | (go_at_call 229; refine (hatom bp bt cap a dep _ hD h0).mono ?_; rintro e w1 hp; obtain ⟨hk1, hl1, hz1, cs, rfl, hr1⟩ := hp.good HX.out; obtain ⟨kk, x, s, ad, n, cap2, mn, mx, rfl⟩ := hr1.cells; have hz1' := hz1.below ((Below.refl _ _).alloc (Nat.le_refl _) (.cells (reC kk x s (.slice ad n cap2) mn mx) 33)); have hb1 := hz1.bp_lt) | (go_at_call 179; refine (often_any hz1').mono ?_; rintro e w2 ⟨rfl, hk2, hz2⟩; simp only [HO.out]) | (go_at_call_of 118 (Value.string ⟨#[123]⟩); refine (take_yes (hnx ▸ hz2) _ hb).mono ?_; rintro e w3 ⟨rfl, hk3, hz3⟩) | (go_at_call 230; (with_reducible refine (number_le hz3 _ n1 n2 n3).mono ?_); rintro e w4 ⟨rfl, hk4, hz4⟩) | (go_at_call_of 118 (Value.string ⟨#[44]⟩); refine (take_yes hz4 _ hc).mono ?_; rintro e w5 ⟨rfl, hk5, hz5⟩) | (go_at_call 230; (with_reducible refine (number_le hz5 _ m1 m2 m3).mono ?_); rintro e w6 ⟨rfl, hk6, hz6⟩) | (go_at_call 123; refine (need_yes hz6 _ hd).mono ?_; rintro e w7 ⟨rfl, hk7, hz7⟩) | (refine wpList_load_blk rfl 33 (.tmp 3) rfl 9 info27 _ Tryz.underlying33 rfl w1.heap.size rfl 33 (reC kk x s (.slice ad n cap2) mn mx) ?hl rfl ?_) | (refine wpList_store_blk rfl 33 (.tmp 2) (.tmp 38) rfl 9 info27 w.heap.size 33 reZ ?hg rfl (reC 8 [] Se.none (.slice (some ⟨w7.heap.size, 0, none⟩) [r].length 1) ((tokAt T (a1 + 1)).num) ((tokAt T (a1 + 1 + 1 + 1)).num)) rfl rfl rfl rfl ?_))
                case hl => exact fin_blk (hk2.trans (hk3.trans (hk4.trans (hk5.trans (hk6.trans hk7))))) hb1
                case hg => exact fin_blk (((hk1.trans (((Kept.refl bp w1).alloc _).trans hk2)).trans (hk3.trans (hk4.trans (hk5.trans (hk6.trans hk7))))).alloc _) hbp
                refine bodyPost_ret (results_cell_row rfl _ _ w.heap.size 33 _ (0, 0) _ rfl (setRow_heap (fin_blk (((hk1.trans (((Kept.refl bp w1).alloc _).trans hk2)).trans (hk3.trans (hk4.trans (hk5.trans (hk6.trans hk7))))).alloc _) hbp) _) Tryz.underlying33 rfl info27) rfl ?_
                exact fin_re hm.out (((hk1.trans (((Kept.refl bp w1).alloc _).trans hk2)).trans (hk3.trans (hk4.trans (hk5.trans (hk6.trans hk7))))).alloc _) (hz7.below ((Below.refl _ _).alloc (Nat.le_refl _) _)) hbp hbt (by omega) (Rs.node (Rs.single ((hr1.kept (((Kept.refl bp w1).alloc _).trans (hk2.trans (hk3.trans (hk4.trans (hk5.trans (hk6.trans hk7)))))) (by simp; omega) (by simp))) (by have := ((hk1.trans (((Kept.refl bp w1).alloc _).trans hk2)).trans (hk3.trans (hk4.trans (hk5.trans (hk6.trans hk7))))).size; simpa using this)) 8 [] Se.none _ _)
    · have hm := hid (show repM atom T a dep = .ok (.mk 8 [] Se.none [r] (oftenM T a1).least (oftenM T a1).most, (oftenM T a1).next) by simp only [repM, hx, ho, if_true])
      have HO := hid ho
      clear hx ho
      go_enter Tryz.func207, Tryz.ntmps207
      go_wp2_with (first | (go_at_call 229; refine (hatom bp bt cap a dep _ hD h0).mono ?_; rintro e w1 hp; obtain ⟨hk1, hl1, hz1, cs, rfl, hr1⟩ := hp.good HX.out; obtain ⟨kk, x, s, ad, n, cap2, mn, mx, rfl⟩ := hr1.cells; have hz1' := hz1.below ((Below.refl _ _).alloc (Nat.le_refl _) (.cells (reC kk x s (.slice ad n cap2) mn mx) 33)); have hb1 := hz1.bp_lt) | (go_at_call 179; refine (often_any hz1').mono ?_; rintro e w2 ⟨rfl, hk2, hz2⟩; simp only [HO.out]) | (refine wpList_load_blk rfl 33 (.tmp 3) rfl 9 info27 _ Tryz.underlying33 rfl w1.heap.size rfl 33 (reC kk x s (.slice ad n cap2) mn mx) ?hl rfl ?_) | (refine wpList_store_blk rfl 33 (.tmp 2) (.tmp 38) rfl 9 info27 w.heap.size 33 reZ ?hg rfl (reC 8 [] Se.none (.slice (some ⟨w2.heap.size, 0, none⟩) [r].length 1) (oftenM T a1).least (oftenM T a1).most) rfl rfl rfl rfl ?_))
      case hl => exact fin_blk hk2 hb1
      case hg => exact fin_blk ((hk1.trans (((Kept.refl bp w1).alloc _).trans hk2)).alloc _) hbp
      refine bodyPost_ret (results_cell_row rfl _ _ w.heap.size 33 _ (0, 0) _ rfl (setRow_heap (fin_blk ((hk1.trans (((Kept.refl bp w1).alloc _).trans hk2)).alloc _) hbp) _) Tryz.underlying33 rfl info27) rfl ?_
      exact fin_re hm.out ((hk1.trans (((Kept.refl bp w1).alloc _).trans hk2)).alloc _) (hz2.below ((Below.refl _ _).alloc (Nat.le_refl _) _)) hbp hbt (Nat.lt_of_lt_of_le hl1 often_le) (Rs.node (Rs.single ((hr1.kept (((Kept.refl bp w1).alloc _).trans hk2) (by simp; omega) (by simp))) (by have := (hk1.trans (((Kept.refl bp w1).alloc _).trans hk2)).size; simpa using this)) 8 [] Se.none _ _)
end Go.Proofs.YtfljcfdfgojdoaaGreatDoor

namespace Go.Proofs.YtfljcfdfgojdoaaGreatDoor
open Go.RowKit Go.Lib

set_option maxRecDepth 100000 in
set_option maxHeartbeats 2000000 in
theorem not_calls {T : List Tok} {D : Nat → Prop} {rep : Nat → Nat → R} (hup : ∀ d, D d → D (d + 1)) (hrep : Parses T 207 D rep) : ∀ f, Parses T 177 (fun d => D d ∧ 33 ≤ f + d) (notM rep T f) := by
  intro f
  induction f with
  | zero =>
    intro bp bt cap a dep w hD h
    have := h.dle
    omega
  | succ f ih =>
    intro bp bt cap a dep w hD h
    have hbp := h.bp_lt
    have hbt := h.inb
    have h0 : Pz T bp bt cap a dep (w.alloc (.cells reZ 33)) := h.below ((Below.refl _ _).alloc (Nat.le_refl _) _)
    cases hi : isB (tokAt T a) [33]
    · have HI := hid hi
      rcases hx : rep a dep with ⟨p, y⟩ | ⟨r, a1⟩
      · have hm := hid (show notM rep T (f + 1) a dep = .error (p, y) by simp only [notM, hi, hx, Bool.false_eq_true, if_false])
        have HX := hid hx
        clear hx hi ih
        go_enter Tryz.func177, Tryz.ntmps177
        go_wp2_with (first | (go_at_call 150; refine (is_any h0 _).mono ?_; rintro e w1 ⟨rfl, hb⟩; rw [HI.out]; have hz1 := h0.below hb) | (go_at_call 207; refine (hrep bp bt cap _ _ _ hD.1 hz1).mono ?_; rintro e w2 hp; obtain ⟨hk2, rfl⟩ := hp.bad HX.out))
        exact ⟨rfl, RePost.mk_bad hm.out (((Kept.refl bp w).alloc _).trans ((Kept.of_below hb).trans hk2)) rfl⟩
      · have hm := hid (show notM rep T (f + 1) a dep = .ok (r, a1) by simp only [notM, hi, hx, Bool.false_eq_true, if_false])
        have HX := hid hx
        clear hx hi ih
        go_enter Tryz.func177, Tryz.ntmps177
        go_wp2_with (first | (go_at_call 150; refine (is_any h0 _).mono ?_; rintro e w1 ⟨rfl, hb⟩; rw [HI.out]; have hz1 := h0.below hb) | (go_at_call 207; refine (hrep bp bt cap _ _ _ hD.1 hz1).mono ?_; rintro e w2 hp; obtain ⟨hk2, hl2, hz2, cs, rfl, hr⟩ := hp.good HX.out; obtain ⟨kk, x, s, ad, n, cap2, mn, mx, rfl⟩ := hr.cells; have hz2' := hz2.below ((Below.refl _ _).alloc (Nat.le_refl _) (.cells (reC kk x s (.slice ad n cap2) mn mx) 33)); have hbq := hz2.bp_lt) | (refine wpList_store_blk rfl 33 (.tmp 2) (.tmp 8) rfl 9 info27 w.heap.size 33 reZ ?hg rfl (reC kk x s (.slice ad n cap2) mn mx) rfl rfl rfl rfl ?_))
        case hg => exact fin_blk ((Kept.of_below hb).trans hk2) hbp
        refine bodyPost_ret (results_cell_row rfl _ _ w.heap.size 33 _ (0, 0) _ rfl (setRow_heap (fin_blk ((Kept.of_below hb).trans hk2) hbp) _) Tryz.underlying33 rfl info27) rfl ?_
        exact fin_re hm.out ((Kept.of_below hb).trans hk2) (hz2) hbp hbt (hl2) (hr.up (by have := hb.size; simp at this; omega))
    · have HI := hid hi
      by_cases hd : dep = 32
      · subst hd
        have hm := hid (show notM rep T (f + 1) a 32 = .error ((tokAt T a).pos, 8) by simp only [notM, hi, if_true])
        clear hi ih
        go_enter Tryz.func177, Tryz.ntmps177
        go_wp2_with (first | (go_at_call 150; refine (is_any h0 _).mono ?_; rintro e w1 ⟨rfl, hb⟩; rw [HI.out]; have hz1 := h0.below hb) | (go_at_call 208; refine (enter_no hz1).mono ?_; rintro e w2 ⟨rfl, hb2⟩))
        exact ⟨rfl, RePost.mk_bad hm.out (((Kept.refl bp w).alloc _).trans ((Kept.of_below hb).trans (Kept.of_below hb2))) rfl⟩
      · have hkd := isB_kind hi
        have hD1 : D (dep + 1) ∧ 33 ≤ f + (dep + 1) := ⟨hup _ hD.1, by have := hD.2; omega⟩
        rcases hx : notM rep T f (a + 1) (dep + 1) with ⟨p, y⟩ | ⟨r, a1⟩
        · have hm := hid (show notM rep T (f + 1) a dep = .error (p, y) by simp only [notM, hi, hd, hx, if_false, if_true])
          have HX := hid hx
          have IH := hid ih
          clear hx hi ih
          go_enter Tryz.func177, Tryz.ntmps177
          go_wp2_with (first | (go_at_call 150; refine (is_any h0 _).mono ?_; rintro e w1 ⟨rfl, hb⟩; rw [HI.out]; have hz1 := h0.below hb) | (go_at_call 208; refine (enter_yes hz1 hkd hd).mono ?_; rintro e w2 ⟨rfl, hk2, hz2⟩) | (go_at_call 177; refine (IH.out bp bt cap _ _ _ hD1 hz2).mono ?_; rintro e w3 hp; obtain ⟨hk3, rfl⟩ := hp.bad HX.out))
          exact ⟨rfl, RePost.mk_bad hm.out (((Kept.refl bp w).alloc _).trans ((Kept.of_below hb).trans (hk2.trans hk3))) rfl⟩
        · have hm := hid (show notM rep T (f + 1) a dep = .ok (.mk 7 [] Se.none [r] 0 0, a1) by simp only [notM, hi, hd, hx, if_false, if_true])
          have HX := hid hx
          have IH := hid ih
          clear hx hi ih
          go_enter Tryz.func177, Tryz.ntmps177
          go_wp2_with (first | (go_at_call 150; refine (is_any h0 _).mono ?_; rintro e w1 ⟨rfl, hb⟩; rw [HI.out]; have hz1 := h0.below hb) | (go_at_call 208; refine (enter_yes hz1 hkd hd).mono ?_; rintro e w2 ⟨rfl, hk2, hz2⟩) | (go_at_call 177; refine (IH.out bp bt cap _ _ _ hD1 hz2).mono ?_; rintro e w3 hp; obtain ⟨hk3, hl3, hz3, cs, rfl, hr⟩ := hp.good HX.out; obtain ⟨kk, x, s, ad, n, cap2, mn, mx, rfl⟩ := hr.cells; have hz3' := hz3.below ((Below.refl _ _).alloc (Nat.le_refl _) (.cells (reC kk x s (.slice ad n cap2) mn mx) 33)); have hbq := hz3.bp_lt) | (go_at_call 209; refine (leave_any hz3').mono ?_; rintro e w4 ⟨rfl, hk4, hz4⟩) | (refine wpList_load_blk rfl 33 (.tmp 3) rfl 9 info27 _ Tryz.underlying33 rfl w3.heap.size rfl 33 (reC kk x s (.slice ad n cap2) mn mx) ?hl rfl ?_) | (refine wpList_store_blk rfl 33 (.tmp 2) (.tmp 17) rfl 9 info27 w.heap.size 33 reZ ?hg rfl (reC 7 [] Se.none (.slice (some ⟨w4.heap.size, 0, none⟩) [r].length 1) 0 0) rfl rfl rfl rfl ?_))
          case hl => exact fin_blk hk4 hbq
          case hg => exact fin_blk (((Kept.of_below hb).trans (hk2.trans (hk3.trans (((Kept.refl bp w3).alloc _).trans hk4)))).alloc _) hbp
          refine bodyPost_ret (results_cell_row rfl _ _ w.heap.size 33 _ (0, 0) _ rfl (setRow_heap (fin_blk (((Kept.of_below hb).trans (hk2.trans (hk3.trans (((Kept.refl bp w3).alloc _).trans hk4)))).alloc _) hbp) _) Tryz.underlying33 rfl info27) rfl ?_
          exact fin_re hm.out (((Kept.of_below hb).trans (hk2.trans (hk3.trans (((Kept.refl bp w3).alloc _).trans hk4)))).alloc _) (hz4.below ((Below.refl _ _).alloc (Nat.le_refl _) _)) hbp hbt (by omega) (Rs.node (Rs.single (hr.kept (((Kept.refl bp w3).alloc _).trans hk4) (by have := hz2.bp_lt; omega) (by have := hb.size; have := hk2.size; simp at *; omega)) (by have := ((Kept.of_below hb).trans (hk2.trans (hk3.trans (((Kept.refl bp w3).alloc _).trans hk4)))).size; simpa using this)) 7 [] Se.none _ _)

set_option maxRecDepth 100000 in
set_option maxHeartbeats 2000000 in
theorem atom_calls {T : List Tok} {D : Nat → Prop} {alt : Nat → Nat → R} (halt : Parses T 52 D alt) : Parses T 229 (fun d => D (d + 1)) (atomM notNone alt T) := by
  intro bp bt cap a dep w hD h
  have hbp := h.bp_lt
  have hbt := h.inb
  have h0 : Pz T bp bt cap a dep (w.alloc (.cells reZ 33)) := h.below ((Below.refl _ _).alloc (Nat.le_refl _) _)
  cases hi : isB (tokAt T a) [40]
  · have HI := hid hi
    rcases hx : leafM notNone T a with ⟨p, y⟩ | ⟨r, a1⟩
    · have hm := hid (show atomM notNone alt T a dep = .error (p, y) by simp only [atomM, hi, hx, Bool.false_eq_true, if_false])
      have HX := hid hx
      clear hx hi
      go_enter Tryz.func229, Tryz.ntmps229
      go_wp2_with (first | (go_at_call 150; refine (is_any h0 _).mono ?_; rintro e w1 ⟨rfl, hb⟩; rw [HI.out]; have hz1 := h0.below hb) | (go_at_call 210; refine (leaf_any hz1).mono ?_; rintro e w2 hp; obtain ⟨hk2, rfl⟩ := hp.bad HX.out))
      exact ⟨rfl, RePost.mk_bad hm.out (((Kept.refl bp w).alloc _).trans ((Kept.of_below hb).trans hk2)) rfl⟩
    · have hm := hid (show atomM notNone alt T a dep = .ok (r, a1) by simp only [atomM, hi, hx, Bool.false_eq_true, if_false])
      have HX := hid hx
      clear hx hi
      go_enter Tryz.func229, Tryz.ntmps229
      go_wp2_with (first | (go_at_call 150; refine (is_any h0 _).mono ?_; rintro e w1 ⟨rfl, hb⟩; rw [HI.out]; have hz1 := h0.below hb) | (go_at_call 210; refine (leaf_any hz1).mono ?_; rintro e w2 hp; obtain ⟨hk2, hl2, hz2, cs, rfl, hr⟩ := hp.good HX.out; obtain ⟨kk, x, s, ad, n, cap2, mn, mx, rfl⟩ := hr.cells) | (refine wpList_store_blk rfl 33 (.tmp 2) (.tmp 8) rfl 9 info27 w.heap.size 33 reZ ?hg rfl (reC kk x s (.slice ad n cap2) mn mx) rfl rfl rfl rfl ?_))
      case hg => exact fin_blk ((Kept.of_below hb).trans hk2) hbp
      refine bodyPost_ret (results_cell_row rfl _ _ w.heap.size 33 _ (0, 0) _ rfl (setRow_heap (fin_blk ((Kept.of_below hb).trans hk2) hbp) _) Tryz.underlying33 rfl info27) rfl ?_
      exact fin_re hm.out ((Kept.of_below hb).trans hk2) (hz2) hbp hbt (hl2) (hr.up (by have := hb.size; simp at this; omega))
  · have HI := hid hi
    by_cases hd : dep = 32
    · subst hd
      have hm := hid (show atomM notNone alt T a 32 = .error ((tokAt T a).pos, 8) by simp only [atomM, hi, if_true])
      clear hi
      go_enter Tryz.func229, Tryz.ntmps229
      go_wp2_with (first | (go_at_call 150; refine (is_any h0 _).mono ?_; rintro e w1 ⟨rfl, hb⟩; rw [HI.out]; have hz1 := h0.below hb) | (go_at_call 208; refine (enter_no hz1).mono ?_; rintro e w2 ⟨rfl, hb2⟩))
      exact ⟨rfl, RePost.mk_bad hm.out (((Kept.refl bp w).alloc _).trans ((Kept.of_below hb).trans (Kept.of_below hb2))) rfl⟩
    · have hkd := isB_kind hi
      rcases hx : alt (a + 1) (dep + 1) with ⟨p, y⟩ | ⟨r, a1⟩
      · have hm := hid (show atomM notNone alt T a dep = .error (p, y) by simp only [atomM, hi, hd, hx, if_false, if_true])
        have HX := hid hx
        clear hx hi
        go_enter Tryz.func229, Tryz.ntmps229
        go_wp2_with (first | (go_at_call 150; refine (is_any h0 _).mono ?_; rintro e w1 ⟨rfl, hb⟩; rw [HI.out]; have hz1 := h0.below hb) | (go_at_call 208; refine (enter_yes hz1 hkd hd).mono ?_; rintro e w2 ⟨rfl, hk2, hz2⟩) | (go_at_call 52; refine (halt bp bt cap _ _ _ hD hz2).mono ?_; rintro e w3 hp; obtain ⟨hk3, rfl⟩ := hp.bad HX.out))
        exact ⟨rfl, RePost.mk_bad hm.out (((Kept.refl bp w).alloc _).trans ((Kept.of_below hb).trans (hk2.trans hk3))) rfl⟩
      · cases hc : isB (tokAt T a1) [41]
        · have hm := hid (show atomM notNone alt T a dep = .error ((tokAt T a1).pos, 4) by simp only [atomM, hi, hd, hx, hc, Bool.false_eq_true, if_false, if_true])
          have HX := hid hx
          clear hx hi
          go_enter Tryz.func229, Tryz.ntmps229
          go_wp2_with (first | (go_at_call 150; refine (is_any h0 _).mono ?_; rintro e w1 ⟨rfl, hb⟩; rw [HI.out]; have hz1 := h0.below hb) | (go_at_call 208; refine (enter_yes hz1 hkd hd).mono ?_; rintro e w2 ⟨rfl, hk2, hz2⟩) | (go_at_call 52; refine (halt bp bt cap _ _ _ hD hz2).mono ?_; rintro e w3 hp; obtain ⟨hk3, hl3, hz3, cs, rfl, hr⟩ := hp.good HX.out; obtain ⟨kk, x, s, ad, n, cap2, mn, mx, rfl⟩ := hr.cells; have hz3' := hz3.below ((Below.refl _ _).alloc (Nat.le_refl _) (.cells (reC kk x s (.slice ad n cap2) mn mx) 33)); have hbq := hz3.bp_lt) | (go_at_call 123; refine (need_no hz3' _ hc).mono ?_; rintro e w4 ⟨rfl, hb4⟩))
          exact ⟨rfl, RePost.mk_bad hm.out (((Kept.refl bp w).alloc _).trans ((Kept.of_below hb).trans (hk2.trans (hk3.trans (((Kept.refl bp w3).alloc _).trans (Kept.of_below hb4)))))) rfl⟩
        · have hm := hid (show atomM notNone alt T a dep = .ok (r, a1 + 1) by simp only [atomM, hi, hd, hx, hc, if_false, if_true])
          have HX := hid hx
          clear hx hi
          go_enter Tryz.func229, Tryz.ntmps229
          go_wp2_with (first | (go_at_call 150; refine (is_any h0 _).mono ?_; rintro e w1 ⟨rfl, hb⟩; rw [HI.out]; have hz1 := h0.below hb) | (go_at_call 208; refine (enter_yes hz1 hkd hd).mono ?_; rintro e w2 ⟨rfl, hk2, hz2⟩) | (go_at_call 52; refine (halt bp bt cap _ _ _ hD hz2).mono ?_; rintro e w3 hp; obtain ⟨hk3, hl3, hz3, cs, rfl, hr⟩ := hp.good HX.out; obtain ⟨kk, x, s, ad, n, cap2, mn, mx, rfl⟩ := hr.cells; have hz3' := hz3.below ((Below.refl _ _).alloc (Nat.le_refl _) (.cells (reC kk x s (.slice ad n cap2) mn mx) 33)); have hbq := hz3.bp_lt) | (go_at_call 123; refine (need_yes hz3' _ hc).mono ?_; rintro e w4 ⟨rfl, hk4, hz4⟩) | (go_at_call 209; refine (leave_any hz4).mono ?_; rintro e w5 ⟨rfl, hk5, hz5⟩) | (refine wpList_load_blk rfl 33 (.tmp 3) rfl 9 info27 _ Tryz.underlying33 rfl w3.heap.size rfl 33 (reC kk x s (.slice ad n cap2) mn mx) ?hl rfl ?_) | (refine wpList_store_blk rfl 33 (.tmp 2) (.tmp 17) rfl 9 info27 w.heap.size 33 reZ ?hg rfl (reC kk x s (.slice ad n cap2) mn mx) rfl rfl rfl rfl ?_))
          case hl => exact fin_blk (hk4.trans hk5) hbq
          case hg => exact fin_blk ((Kept.of_below hb).trans (hk2.trans (hk3.trans (((Kept.refl bp w3).alloc _).trans (hk4.trans hk5))))) hbp
          refine bodyPost_ret (results_cell_row rfl _ _ w.heap.size 33 _ (0, 0) _ rfl (setRow_heap (fin_blk ((Kept.of_below hb).trans (hk2.trans (hk3.trans (((Kept.refl bp w3).alloc _).trans (hk4.trans hk5))))) hbp) _) Tryz.underlying33 rfl info27) rfl ?_
          exact fin_re hm.out ((Kept.of_below hb).trans (hk2.trans (hk3.trans (((Kept.refl bp w3).alloc _).trans (hk4.trans hk5))))) (hz5) hbp hbt (by omega) (hr.kept (((Kept.refl bp w3).alloc _).trans (hk4.trans hk5)) (by have := hz2.bp_lt; omega) (by have := hb.size; have := hk2.size; simp at *; omega))
end Go.Proofs.YtfljcfdfgojdoaaGreatDoor
