/-
  The contracts of mapRep, mapCat and mapAlt; mapAlt at every depth, by induction. (Printed by genC.py.)
-/
import Derived.Test.YtfljcfdfgojdoaaGreatDoorAa12
namespace Go.Proofs.YtfljcfdfgojdoaaGreatDoor
open Go.RowKit Go.Lib

set_option maxRecDepth 100000 in
set_option maxHeartbeats 2000000 in
theorem mapRep_calls {T : List Tok} {D : Nat → Prop} {atom : Nat → Nat → RX Mp} (hatom : ParsesX MpAt T 178 D atom) : ParsesX MpAt T 148 D (mRepM atom T) := by
  intro bp bt cap a dep w hD h
  have hbp := h.bp_lt
  have hbt := h.inb
  have h0 : Pz T bp bt cap a dep (w.alloc (.cells mpZ 36)) := h.below ((Below.refl _ _).alloc (Nat.le_refl _) _)
  rcases hx : atom a dep with ⟨p, y⟩ | ⟨r, a1⟩
  · have hm := hid (show mRepM atom T a dep = .error (p, y) by simp only [mRepM, hx])
    have HX := hid hx
    clear hx
    go_enter Tryz.func148, Tryz.ntmps148
    go_wp2_with (first | (go_at_call 178; refine (hatom bp bt cap a dep _ hD h0).mono ?_; rintro e w1 hp; obtain ⟨hk1, rfl⟩ := hp.bad HX.out))
    exact ⟨rfl, XPost.mk_bad hm.out (((Kept.refl bp w).alloc _).trans hk1) rfl⟩
  · have HX := hid hx
    cases ho : (oftenM T a1).ok
    · have hnx := often_next ho
      have hm := hid (show mRepM atom T a dep = .ok (r, a1) by simp only [mRepM, hx, ho, Bool.false_eq_true, if_false])
      have HO := hid ho
      clear hx ho
      go_enter Tryz.func148, Tryz.ntmps148
      go_wp2_with (first | (go_at_call 178; refine (hatom bp bt cap a dep _ hD h0).mono ?_; rintro e w1 hp; obtain ⟨hk1, hl1, hz1, cs, rfl, hr⟩ := hp.good HX.out; obtain ⟨mk, rk, rx, rs, ra, rl, rc, rn, rm, mo, ad, n, cap2, mn, mx, rfl⟩ := hr.cells; have hz1' := hz1.below ((Below.refl _ _).alloc (Nat.le_refl _) (.cells (mpC mk rk rx rs (.slice ra rl rc) rn rm mo (.slice ad n cap2) mn mx) 36)); have hb1 := hz1.bp_lt) | (go_at_call 179; refine (often_any hz1').mono ?_; rintro e w2 ⟨rfl, hk2, hz2⟩; simp only [HO.out]) | (refine wpList_load_blk rfl 36 (.tmp 3) rfl 14 info44 _ Tryz.underlying36 rfl w1.heap.size rfl 36 (mpC mk rk rx rs (.slice ra rl rc) rn rm mo (.slice ad n cap2) mn mx) ?hl rfl ?_) | (refine wpList_store_blk rfl 36 (.tmp 2) (.tmp 17) rfl 14 info44 w.heap.size 36 mpZ ?hg rfl (mpC mk rk rx rs (.slice ra rl rc) rn rm mo (.slice ad n cap2) mn mx) rfl rfl rfl rfl ?_))
      case hl => exact fin_blk hk2 hb1
      case hg => exact fin_blk (hk1.trans (((Kept.refl bp w1).alloc _).trans hk2)) hbp
      refine bodyPost_ret (results_cell_row rfl _ _ w.heap.size 36 (mpC mk rk rx rs (.slice ra rl rc) rn rm mo (.slice ad n cap2) mn mx) (0, 0) _ rfl (setRow_heap (fin_blk (hk1.trans (((Kept.refl bp w1).alloc _).trans hk2)) hbp) _) Tryz.underlying36 rfl info44) rfl ?_
      exact fin_mp hm.out (hk1.trans (((Kept.refl bp w1).alloc _).trans hk2)) (hnx ▸ hz2) hbp hbt hl1 (hr.kept (((Kept.refl bp w1).alloc _).trans hk2) (by simp; omega) (by simp))
    · have hm := hid (show mRepM atom T a dep = .ok (.mk 5 Re.zero [] [r] (oftenM T a1).least (oftenM T a1).most, (oftenM T a1).next) by simp only [mRepM, hx, ho, if_true])
      have HO := hid ho
      clear hx ho
      go_enter Tryz.func148, Tryz.ntmps148
      go_wp2_with (first | (go_at_call 178; refine (hatom bp bt cap a dep _ hD h0).mono ?_; rintro e w1 hp; obtain ⟨hk1, hl1, hz1, cs, rfl, hr⟩ := hp.good HX.out; obtain ⟨mk, rk, rx, rs, ra, rl, rc, rn, rm, mo, ad, n, cap2, mn, mx, rfl⟩ := hr.cells; have hz1' := hz1.below ((Below.refl _ _).alloc (Nat.le_refl _) (.cells (mpC mk rk rx rs (.slice ra rl rc) rn rm mo (.slice ad n cap2) mn mx) 36)); have hb1 := hz1.bp_lt) | (go_at_call 179; refine (often_any hz1').mono ?_; rintro e w2 ⟨rfl, hk2, hz2⟩; simp only [HO.out]) | (refine wpList_load_blk rfl 36 (.tmp 3) rfl 14 info44 _ Tryz.underlying36 rfl w1.heap.size rfl 36 (mpC mk rk rx rs (.slice ra rl rc) rn rm mo (.slice ad n cap2) mn mx) ?hl rfl ?_) | (refine wpList_store_blk rfl 36 (.tmp 2) (.tmp 22) rfl 14 info44 w.heap.size 36 mpZ ?hg rfl (mpC 5 0 [] Se.none (.slice none 0 0) 0 0 [] (.slice (some ⟨w2.heap.size, 0, none⟩) [r].length 1) (oftenM T a1).least (oftenM T a1).most) rfl rfl rfl rfl ?_))
      case hl => exact fin_blk hk2 hb1
      case hg => exact fin_blk ((hk1.trans (((Kept.refl bp w1).alloc _).trans hk2)).alloc _) hbp
      refine bodyPost_ret (results_cell_row rfl _ _ w.heap.size 36 (mpC 5 0 [] Se.none (.slice none 0 0) 0 0 [] (.slice (some ⟨w2.heap.size, 0, none⟩) [r].length 1) (oftenM T a1).least (oftenM T a1).most) (0, 0) _ rfl (setRow_heap (fin_blk ((hk1.trans (((Kept.refl bp w1).alloc _).trans hk2)).alloc _) hbp) _) Tryz.underlying36 rfl info44) rfl ?_
      exact fin_mp hm.out ((hk1.trans (((Kept.refl bp w1).alloc _).trans hk2)).alloc _) (hz2.below ((Below.refl _ _).alloc (Nat.le_refl _) _)) hbp hbt (Nat.lt_of_lt_of_le hl1 often_le) (Ms.node (Ms.single ((hr.kept (((Kept.refl bp w1).alloc _).trans hk2) (by simp; omega) (by simp))) rfl (by have := (hk1.trans (((Kept.refl bp w1).alloc _).trans hk2)).size; simpa using this)) 5 _ _)

set_option maxRecDepth 100000 in
set_option maxHeartbeats 4000000 in
theorem mapCat_calls {T : List Tok} {D : Nat → Prop} {part : Nat → Nat → RX Mp} (hpart : ParsesX MpAt T 148 D part) : ParsesX MpAt T 117 D (mCatM part T) := by
  intro bp bt cap a dep w hD h
  have hbp := h.bp_lt
  have hbt := h.inb
  have hfew := h.few
  have hlt0 := h.lt
  have h0 : Pz T bp bt cap a dep (w.alloc (.cells mpZ 36)) := h.below ((Below.refl _ _).alloc (Nat.le_refl _) _)
  obtain ⟨i0, hi, iz0, iz1, iz2⟩ := info_parts info44'
  rcases hx : part a dep with ⟨p, y⟩ | ⟨r, a1⟩
  · have hm := hid (show mCatM part T a dep = .error (p, y) by simp only [mCatM, hx])
    have HX := hid hx
    clear hx
    go_enter Tryz.func117, Tryz.ntmps117
    go_wp2_with (go_at_call 148; (with_reducible refine (hpart.go hD h0).mono ?_); rintro e w1 hp; obtain ⟨hk1, rfl⟩ := hp.bad HX.out)
    exact ⟨rfl, XPost.mk_bad hm.out (((Kept.refl bp w).alloc _).trans hk1) rfl⟩
  · have hm0 := hid (show mCatM part T a dep = mCatLoop part T dep (T.length + 1) [r] a1 by simp only [mCatM, hx])
    have HX := hid hx
    clear hx
    go_enter Tryz.func117, Tryz.ntmps117
    go_wp2_with (go_at_call 148; (with_reducible refine (hpart.go hD h0).mono ?_); rintro e w1 hp; obtain ⟨hk1, hl1, hz1, cs, rfl, hr⟩ := hp.good HX.out; obtain ⟨mk, rk, rx, rs, ra, rl, rc, rn, rm, mo, ad, n, cap2, mn, mx, rfl⟩ := hr.cells)
    have hb1 : w.heap.size + 1 ≤ w1.heap.size := by have := hk1.size; simpa using this
    have hr0 : MpAt (w.heap.size + 1) w1 r (mpC mk rk rx rs (.slice ra rl rc) rn rm mo (.slice ad n cap2) mn mx) := hr.up (by simp)
    have hat1 : atOf bp (w1.alloc (.cells (mpC mk rk rx rs (.slice ra rl rc) rn rm mo (.slice ad n cap2) mn mx) 36)) = a1 := (hz1.below ((Below.refl _ _).alloc (Nat.le_refl _) _)).atOf
    go_loopw [3] (fun v wr => ∃ (a1 f : Nat) (l : List Mp), Ms (w.heap.size + 1) wr l v ∧ Pz T bp bt cap a1 dep wr ∧ Kept bp (w.alloc (.cells mpZ 36)) wr ∧ a < a1 ∧ l.length ≤ a1 ∧ 1 ≤ l.length ∧ T.length < a1 + f ∧ Hid (mCatM part T a dep = mCatLoop part T dep f l a1)) (fun _ wr => T.length - atOf bp wr)
    case atStart => exact ⟨a1, T.length + 1, [r], Ms.single hr0 rfl hb1, hz1.below ((Below.refl _ _).alloc (Nat.le_refl _) _), hk1.alloc _, hl1, by simp; omega, by simp, by omega, hm0.out⟩
    case round =>
      clear hat1 hr0 hr hz1 hk1 hb1 hl1 HX hm0
      obtain ⟨a1, f, l, hrs, hz, hk, hl1, hll, hln, hf, H⟩ := hrel
      have hmu := hid hz.atOf
      obtain ⟨f, rfl⟩ : ∃ f', f = f' + 1 := ⟨f - 1, by have := hz.lt; omega⟩
      obtain ⟨ad, cap3, rfl⟩ := hrs.shape
      have hlz := hz.lt
      cases hi0 : beginsB (tokAt T a1)
      · have hm := hid (show mCatM part T a dep = .ok (mjoinM 3 l, a1) from H.out.trans (by simp only [mCatLoop, hi0, Bool.false_eq_true, if_false]))
        clear H
        have HI := hid hi0
        go_wp2_with (first | (go_at_call 149; (with_reducible refine (begins_any hz).mono ?_); rintro e w1 ⟨rfl, hb1⟩; rw [HI.out]) | (go_at_call 119; refine (mapRow_any (hrs.kept (bp := bp) (Kept.of_below hb1) (by omega)) _).mono ?_; rintro e w4 ⟨hb4, cs, rfl, hr4⟩; obtain ⟨mk4, rk4, rx4, rs4, ra4, rl4, rc4, rn4, rm4, mo4, ad4, n4, cap4, mn4, mx4, rfl⟩ := hr4.cells) | (refine wpList_store_blk rfl 36 (.tmp 2) (.tmp 15) rfl 14 info44 w.heap.size 36 mpZ ?hg rfl (mpC mk4 rk4 rx4 rs4 (.slice ra4 rl4 rc4) rn4 rm4 mo4 (.slice ad4 n4 cap4) mn4 mx4) rfl rfl rfl rfl ?_))
        case hg => exact fin_blk (hk.trans ((Kept.of_below hb1).trans (Kept.of_below hb4))) hbp
        refine bodyPost_ret (results_cell_row rfl _ _ w.heap.size 36 (mpC mk4 rk4 rx4 rs4 (.slice ra4 rl4 rc4) rn4 rm4 mo4 (.slice ad4 n4 cap4) mn4 mx4) (0, 0) _ rfl (setRow_heap (fin_blk (hk.trans ((Kept.of_below hb1).trans (Kept.of_below hb4))) hbp) _) Tryz.underlying36 rfl info44) rfl ?_
        exact fin_mp hm.out (hk.trans ((Kept.of_below hb1).trans (Kept.of_below hb4))) ((hz.below hb1).below hb4) hbp hbt (hl1) (hr4)
      · have HI := hid hi0
        rcases hx : part a1 dep with ⟨p, y⟩ | ⟨r, a2⟩
        · have hm := hid (show mCatM part T a dep = .error (p, y) from H.out.trans (by simp only [mCatLoop, hi0, hx, if_true]))
          have HX := hid hx
          clear hx H
          go_wp2_with (first | (go_at_call 149; (with_reducible refine (begins_any hz).mono ?_); rintro e w1 ⟨rfl, hb1⟩; rw [HI.out]) | (go_at_call 148; (with_reducible refine (hpart.go hD (hz.below hb1)).mono ?_); rintro e w3 hp; obtain ⟨hk3, rfl⟩ := hp.bad HX.out))
          exact ⟨rfl, XPost.mk_bad hm.out (((Kept.refl bp w).alloc _).trans (hk.trans ((Kept.of_below hb1).trans hk3))) rfl⟩
        · have hm := hid (show mCatM part T a dep = mCatLoop part T dep f (l ++ [r]) a2 from H.out.trans (by simp only [mCatLoop, hi0, hx, if_true]))
          have HX := hid hx
          clear hx H
          go_wp2_with (first | (go_at_call 149; (with_reducible refine (begins_any hz).mono ?_); rintro e w1 ⟨rfl, hb1⟩; rw [HI.out]) | (go_at_call 148; (with_reducible refine (hpart.go hD (hz.below hb1)).mono ?_); rintro e w3 hp; obtain ⟨hk3, hl3, hz3, cs, rfl, hr⟩ := hp.good HX.out; obtain ⟨mk, rk, rx, rs, ra, rl, rc, rn, rm, mo, ad2, n, cap2, mn, mx, rfl⟩ := hr.cells) | (at_builtin; have hrs3 := hrs.kept (bp := bp) ((Kept.of_below hb1).trans hk3) (by omega); obtain ⟨xs, HOX, hpx⟩ := hrs3.own; have hc1 := news_blk (heap_alloc_new w3 (.cells (mpC mk rk rx rs (.slice ra rl rc) rn rm mo (.slice ad2 n cap2) mn mx) 36)); have hc3 : l.length + 1 ≤ maxLen := (by unfold maxLen; omega); have hc5 : w.heap.size + 1 ≤ (w3.alloc (.cells (mpC mk rk rx rs (.slice ra rl rc) rn rm mo (.slice ad2 n cap2) mn mx) 36)).heap.size := Nat.le_trans (by simpa using (hk.trans ((Kept.of_below hb1).trans hk3)).size) (by simp); refine wpList_append_lies _ rfl (.tmp 9) (.tmp 12) 34 rfl (w.heap.size + 1) 36 i0 _ 14 160 Tryz.underlying34 hi iz0 iz1 iz2 rfl (by decide) _ _ xs rfl (HOX.alloc _) ⟨w3.heap.size, 0, none⟩ 1 1 (mpC mk rk rx rs (.slice ra rl rc) rn rm mo (.slice ad2 n cap2) mn mx).toList rfl rfl hc1 (one_of_all rfl) Nat.one_pos hc3 (by omega) hc5 (w3.heap.size + 1) (by simp) ?_))
          intro g cap5 w5 ho5 hg5 hat5 hlt5
          have hrow : ∀ g', (Value.slice ad l.length cap3).ownBlock = some g' → w.heap.size + 1 ≤ g' := fun g' hg' => own_block HOX hg'
          have hlow : ∀ g', (Value.slice ad l.length cap3).ownBlock = some g' → g' < w1.heap.size := fun g' hg' => by
            obtain ⟨xs0, ho0, _⟩ := hrs.own
            rcases ownsRow_exist ho0 hg' with hh | hh
            · have := hb1.size; omega
            · omega
          have hrs5 := Ms.snoc (r := r) ho5 (hpx.frame (fun _ hg _ => hg) (fun g' _ hg' => alloc_old hg')) (hr.frame (fun _ hg _ => hg) (fun g' _ hg' => alloc_old hg')) hlow (by have := hk.size; have := hb1.size; simp at *; omega) hg5 (by simpa using hat5)
          have hz5 := (hz3.below ((Below.refl _ _).alloc (Nat.le_refl _) _)).grown (B := w.heap.size + 1) (by omega) (by omega) hrow hg5
          have hk5 := ((hk.trans ((Kept.of_below hb1).trans hk3)).alloc _).grown (B := w.heap.size + 1) (by simp) hrow hg5
          have hmu5 := hz5.atOf
          clear ho5 hg5 hat5 hpx HOX hrow hlow
          have HM5 := hid hmu5
          clear hmu5
          go_wp2
          go_roundw
          case rel => exact ⟨a2, f, l ++ [r], (by rw [List.length_append] at hrs5; exact hrs5), hz5, hk5, by omega, by simp; omega, by simp, by omega, hm.out⟩
          case measure => rw [hmu.out, HM5.out]; omega

set_option maxRecDepth 100000 in
set_option maxHeartbeats 4000000 in
theorem mapAlt_calls {T : List Tok} {D : Nat → Prop} {part : Nat → Nat → RX Mp} (hpart : ParsesX MpAt T 117 D part) : ParsesX MpAt T 58 D (mRowM part T) := by
  intro bp bt cap a dep w hD h
  have hbp := h.bp_lt
  have hbt := h.inb
  have hfew := h.few
  have hlt0 := h.lt
  have h0 : Pz T bp bt cap a dep (w.alloc (.cells mpZ 36)) := h.below ((Below.refl _ _).alloc (Nat.le_refl _) _)
  obtain ⟨i0, hi, iz0, iz1, iz2⟩ := info_parts info44'
  rcases hx : part a dep with ⟨p, y⟩ | ⟨r, a1⟩
  · have hm := hid (show mRowM part T a dep = .error (p, y) by simp only [mRowM, hx])
    have HX := hid hx
    clear hx
    go_enter Tryz.func58, Tryz.ntmps58
    go_wp2_with (go_at_call 117; (with_reducible refine (hpart.go hD h0).mono ?_); rintro e w1 hp; obtain ⟨hk1, rfl⟩ := hp.bad HX.out)
    exact ⟨rfl, XPost.mk_bad hm.out (((Kept.refl bp w).alloc _).trans hk1) rfl⟩
  · have hm0 := hid (show mRowM part T a dep = mRowLoop part T dep (T.length + 1) [r] a1 by simp only [mRowM, hx])
    have HX := hid hx
    clear hx
    go_enter Tryz.func58, Tryz.ntmps58
    go_wp2_with (go_at_call 117; (with_reducible refine (hpart.go hD h0).mono ?_); rintro e w1 hp; obtain ⟨hk1, hl1, hz1, cs, rfl, hr⟩ := hp.good HX.out; obtain ⟨mk, rk, rx, rs, ra, rl, rc, rn, rm, mo, ad, n, cap2, mn, mx, rfl⟩ := hr.cells)
    have hb1 : w.heap.size + 1 ≤ w1.heap.size := by have := hk1.size; simpa using this
    have hr0 : MpAt (w.heap.size + 1) w1 r (mpC mk rk rx rs (.slice ra rl rc) rn rm mo (.slice ad n cap2) mn mx) := hr.up (by simp)
    have hat1 : atOf bp (w1.alloc (.cells (mpC mk rk rx rs (.slice ra rl rc) rn rm mo (.slice ad n cap2) mn mx) 36)) = a1 := (hz1.below ((Below.refl _ _).alloc (Nat.le_refl _) _)).atOf
    go_loopw [3] (fun v wr => ∃ (a1 f : Nat) (l : List Mp), Ms (w.heap.size + 1) wr l v ∧ Pz T bp bt cap a1 dep wr ∧ Kept bp (w.alloc (.cells mpZ 36)) wr ∧ a < a1 ∧ l.length ≤ a1 ∧ 1 ≤ l.length ∧ T.length < a1 + f ∧ Hid (mRowM part T a dep = mRowLoop part T dep f l a1)) (fun _ wr => T.length - atOf bp wr)
    case atStart => exact ⟨a1, T.length + 1, [r], Ms.single hr0 rfl hb1, hz1.below ((Below.refl _ _).alloc (Nat.le_refl _) _), hk1.alloc _, hl1, by simp; omega, by simp, by omega, hm0.out⟩
    case round =>
      clear hat1 hr0 hr hz1 hk1 hb1 hl1 HX hm0
      obtain ⟨a1, f, l, hrs, hz, hk, hl1, hll, hln, hf, H⟩ := hrel
      have hmu := hid hz.atOf
      obtain ⟨f, rfl⟩ : ∃ f', f = f' + 1 := ⟨f - 1, by have := hz.lt; omega⟩
      obtain ⟨ad, cap3, rfl⟩ := hrs.shape
      have hlz := hz.lt
      cases hi0 : isB (tokAt T a1) [124]
      · have hm := hid (show mRowM part T a dep = .ok (mjoinM 4 l, a1) from H.out.trans (by simp only [mRowLoop, hi0, Bool.false_eq_true, if_false]))
        clear H
        have HI := hid hi0
        go_wp2_with (first | (go_at_call 118; (with_reducible refine (take_no hz _ hi0).mono ?_); rintro e w1 ⟨rfl, hb1⟩) | (go_at_call 119; refine (mapRow_any (hrs.kept (bp := bp) (Kept.of_below hb1) (by omega)) _).mono ?_; rintro e w4 ⟨hb4, cs, rfl, hr4⟩; obtain ⟨mk4, rk4, rx4, rs4, ra4, rl4, rc4, rn4, rm4, mo4, ad4, n4, cap4, mn4, mx4, rfl⟩ := hr4.cells) | (refine wpList_store_blk rfl 36 (.tmp 2) (.tmp 15) rfl 14 info44 w.heap.size 36 mpZ ?hg rfl (mpC mk4 rk4 rx4 rs4 (.slice ra4 rl4 rc4) rn4 rm4 mo4 (.slice ad4 n4 cap4) mn4 mx4) rfl rfl rfl rfl ?_))
        case hg => exact fin_blk (hk.trans ((Kept.of_below hb1).trans (Kept.of_below hb4))) hbp
        refine bodyPost_ret (results_cell_row rfl _ _ w.heap.size 36 (mpC mk4 rk4 rx4 rs4 (.slice ra4 rl4 rc4) rn4 rm4 mo4 (.slice ad4 n4 cap4) mn4 mx4) (0, 0) _ rfl (setRow_heap (fin_blk (hk.trans ((Kept.of_below hb1).trans (Kept.of_below hb4))) hbp) _) Tryz.underlying36 rfl info44) rfl ?_
        exact fin_mp hm.out (hk.trans ((Kept.of_below hb1).trans (Kept.of_below hb4))) ((hz.below hb1).below hb4) hbp hbt (hl1) (hr4)
      · have HI := hid hi0
        rcases hx : part (a1 + 1) dep with ⟨p, y⟩ | ⟨r, a2⟩
        · have hm := hid (show mRowM part T a dep = .error (p, y) from H.out.trans (by simp only [mRowLoop, hi0, hx, if_true]))
          have HX := hid hx
          clear hx H
          go_wp2_with (first | (go_at_call 118; (with_reducible refine (take_yes hz _ hi0).mono ?_); rintro e w1 ⟨rfl, hk1, hz1⟩) | (go_at_call 117; (with_reducible refine (hpart.go hD hz1).mono ?_); rintro e w3 hp; obtain ⟨hk3, rfl⟩ := hp.bad HX.out))
          exact ⟨rfl, XPost.mk_bad hm.out (((Kept.refl bp w).alloc _).trans (hk.trans (hk1.trans hk3))) rfl⟩
        · have hm := hid (show mRowM part T a dep = mRowLoop part T dep f (l ++ [r]) a2 from H.out.trans (by simp only [mRowLoop, hi0, hx, if_true]))
          have HX := hid hx
          clear hx H
          go_wp2_with (first | (go_at_call 118; (with_reducible refine (take_yes hz _ hi0).mono ?_); rintro e w1 ⟨rfl, hk1, hz1⟩) | (go_at_call 117; (with_reducible refine (hpart.go hD hz1).mono ?_); rintro e w3 hp; obtain ⟨hk3, hl3, hz3, cs, rfl, hr⟩ := hp.good HX.out; obtain ⟨mk, rk, rx, rs, ra, rl, rc, rn, rm, mo, ad2, n, cap2, mn, mx, rfl⟩ := hr.cells) | (at_builtin; have hrs3 := hrs.kept (bp := bp) (hk1.trans hk3) (by omega); obtain ⟨xs, HOX, hpx⟩ := hrs3.own; have hc1 := news_blk (heap_alloc_new w3 (.cells (mpC mk rk rx rs (.slice ra rl rc) rn rm mo (.slice ad2 n cap2) mn mx) 36)); have hc3 : l.length + 1 ≤ maxLen := (by unfold maxLen; omega); have hc5 : w.heap.size + 1 ≤ (w3.alloc (.cells (mpC mk rk rx rs (.slice ra rl rc) rn rm mo (.slice ad2 n cap2) mn mx) 36)).heap.size := Nat.le_trans (by simpa using (hk.trans (hk1.trans hk3)).size) (by simp); refine wpList_append_lies _ rfl (.tmp 9) (.tmp 12) 34 rfl (w.heap.size + 1) 36 i0 _ 14 160 Tryz.underlying34 hi iz0 iz1 iz2 rfl (by decide) _ _ xs rfl (HOX.alloc _) ⟨w3.heap.size, 0, none⟩ 1 1 (mpC mk rk rx rs (.slice ra rl rc) rn rm mo (.slice ad2 n cap2) mn mx).toList rfl rfl hc1 (one_of_all rfl) Nat.one_pos hc3 (by omega) hc5 (w3.heap.size + 1) (by simp) ?_))
          intro g cap5 w5 ho5 hg5 hat5 hlt5
          have hrow : ∀ g', (Value.slice ad l.length cap3).ownBlock = some g' → w.heap.size + 1 ≤ g' := fun g' hg' => own_block HOX hg'
          have hlow : ∀ g', (Value.slice ad l.length cap3).ownBlock = some g' → g' < w1.heap.size := fun g' hg' => by
            obtain ⟨xs0, ho0, _⟩ := hrs.own
            rcases ownsRow_exist ho0 hg' with hh | hh
            · have := hk1.size; omega
            · omega
          have hrs5 := Ms.snoc (r := r) ho5 (hpx.frame (fun _ hg _ => hg) (fun g' _ hg' => alloc_old hg')) (hr.frame (fun _ hg _ => hg) (fun g' _ hg' => alloc_old hg')) hlow (by have := hk.size; have := hk1.size; simp at *; omega) hg5 (by simpa using hat5)
          have hz5 := (hz3.below ((Below.refl _ _).alloc (Nat.le_refl _) _)).grown (B := w.heap.size + 1) (by omega) (by omega) hrow hg5
          have hk5 := ((hk.trans (hk1.trans hk3)).alloc _).grown (B := w.heap.size + 1) (by simp) hrow hg5
          have hmu5 := hz5.atOf
          clear ho5 hg5 hat5 hpx HOX hrow hlow
          have HM5 := hid hmu5
          clear hmu5
          go_wp2
          go_roundw
          case rel => exact ⟨a2, f, l ++ [r], (by rw [List.length_append] at hrs5; exact hrs5), hz5, hk5, by omega, by simp; omega, by simp, by omega, hm.out⟩
          case measure => rw [hmu.out, HM5.out]; omega

theorem map_all (T : List Tok) : ∀ n, ParsesX MpAt T 58 (fun d => 33 ≤ n + d) (mAltM T n) := by
  intro n
  induction n with
  | zero =>
    intro bp bt cap a dep w hD h
    have := h.dle
    omega
  | succ n ih =>
    have h1 : ParsesX MpAt T 178 (fun d => 33 ≤ n + 1 + d) (mAtomM (mAltM T n) T) := fun bp bt cap a dep w hD h => mapAtom_calls ih bp bt cap a dep w (by show 33 ≤ n + (dep + 1); omega) h
    exact mapAlt_calls (mapCat_calls (mapRep_calls h1))
end Go.Proofs.YtfljcfdfgojdoaaGreatDoor
