/-
  The contracts of cat and of atom, out of those of their parts.
  The contracts of row, and, alt: alt at every depth, by induction.
-/
import Derived.Test.YtfljcfdfgojdoaaGreatDoorAa06
import Derived.Deep.AppendLies
namespace Go.Proofs.YtfljcfdfgojdoaaGreatDoor
open Go.RowKit Go.Lib

theorem Parses.go {T : List Tok} {f : FuncId} {D : Nat → Prop} {M : Nat → Nat → R} (h : Parses T f D M) {bp bt cap a dep : Nat} {w : World} (hD : D dep) (hz : Pz T bp bt cap a dep w) :
    Calls Tryz.prog f #[.pointer (some ⟨bp, 0, none⟩)] w (RePost T bp bt cap a dep w (M a dep)) := h bp bt cap a dep w hD hz
theorem Kept.grown {bp B : Nat} {a w w' : World} {row : Option Nat} (h : Kept bp a w) (hB : a.heap.size ≤ B) (hr : ∀ g, row = some g → B ≤ g) (hg : w.grownBy w' row) : Kept bp a w' :=
  ⟨hg.os.trans h.os, hg.tape.trans h.tape, hg.output.trans h.output, Nat.le_trans h.size hg.size, fun k hk hne => (hg.block k (Nat.lt_of_lt_of_le hk h.size) (fun e => by have := hr k e.symm; omega)).trans (h.block k hk hne)⟩
theorem Pz.grown {T : List Tok} {bp bt cap a dep B : Nat} {w w' : World} {row : Option Nat} (h : Pz T bp bt cap a dep w) (h1 : bp < B) (h2 : bt < B) (hr : ∀ g, row = some g → B ≤ g) (hg : w.grownBy w' row) : Pz T bp bt cap a dep w' where
  blk := (hg.block bp h.bp_lt (fun e => by have := hr bp e.symm; omega)).trans h.blk
  toks i t ht j v hv := by
    rw [World.cell?_of_block (w := w) (hg.block bt h.inb (fun e => by have := hr bt e.symm; omega))]
    exact h.toks i t ht j v hv
  ne := h.ne
  inb := Nat.lt_of_lt_of_le h.inb hg.size
  lt := h.lt
  fin := h.fin
  few := h.few
  dle := h.dle
def atOf (bp : Nat) (w : World) : Nat := (intOf ((w.cell? ⟨bp, 1, none⟩).getD undef)).toNat
theorem Pz.atOf {T : List Tok} {bp bt cap a dep : Nat} {w : World} (h : Pz T bp bt cap a dep w) : atOf bp w = a := by
  unfold Go.Proofs.YtfljcfdfgojdoaaGreatDoor.atOf
  rw [h.c1]
  simp [intOf]

set_option maxRecDepth 100000 in
set_option maxHeartbeats 4000000 in
theorem cat_calls {T : List Tok} {D : Nat → Prop} {part : Nat → Nat → R} (hpart : Parses T 177 D part) : Parses T 146 D (catM part T) := by
  intro bp bt cap a dep w hD h
  have hbp := h.bp_lt
  have hbt := h.inb
  have hfew := h.few
  have hlt0 := h.lt
  have h0 : Pz T bp bt cap a dep (w.alloc (.cells reZ 33)) := h.below ((Below.refl _ _).alloc (Nat.le_refl _) _)
  obtain ⟨i0, hi, iz0, iz1, iz2⟩ := info_parts info27'
  rcases hx : part a dep with ⟨p, y⟩ | ⟨r, a1⟩
  · have hm := hid (show catM part T a dep = .error (p, y) by simp only [catM, hx])
    have HX := hid hx
    clear hx
    go_enter Tryz.func146, Tryz.ntmps146
    go_wp2_with (go_at_call 177; (with_reducible refine (hpart.go hD h0).mono ?_); rintro e w1 hp; obtain ⟨hk1, rfl⟩ := hp.bad HX.out)
    exact ⟨rfl, RePost.mk_bad hm.out (((Kept.refl bp w).alloc _).trans hk1) rfl⟩
  · have hm0 := hid (show catM part T a dep = catLoop part T dep (T.length + 1) [r] a1 by simp only [catM, hx])
    have HX := hid hx
    clear hx
    go_enter Tryz.func146, Tryz.ntmps146
    go_wp2_with (go_at_call 177; (with_reducible refine (hpart.go hD h0).mono ?_); rintro e w1 hp; obtain ⟨hk1, hl1, hz1, cs, rfl, hr⟩ := hp.good HX.out; obtain ⟨kk, x, s, ad, n, cap2, mn, mx, rfl⟩ := hr.cells)
    have hb1 : w.heap.size + 1 ≤ w1.heap.size := by have := hk1.size; simpa using this
    have hr0 : ReAt (w.heap.size + 1) w1 r (reC kk x s (.slice ad n cap2) mn mx) := hr.up (by simp)
    have hat1 : atOf bp (w1.alloc (.cells (reC kk x s (.slice ad n cap2) mn mx) 33)) = a1 := (hz1.below ((Below.refl _ _).alloc (Nat.le_refl _) _)).atOf
    go_loopw [3] (fun v wr => ∃ (a1 f : Nat) (l : List Re), Rs (w.heap.size + 1) wr l v ∧ Pz T bp bt cap a1 dep wr ∧ Kept bp (w.alloc (.cells reZ 33)) wr ∧ a < a1 ∧ l.length ≤ a1 ∧ 1 ≤ l.length ∧ T.length < a1 + f ∧ Hid (catM part T a dep = catLoop part T dep f l a1)) (fun _ wr => T.length - atOf bp wr)
    case atStart => exact ⟨a1, T.length + 1, [r], Rs.single hr0 hb1, hz1.below ((Below.refl _ _).alloc (Nat.le_refl _) _), hk1.alloc _, hl1, by simp; omega, by simp, by omega, hm0.out⟩
    case round =>
      clear hat1 hr0 hr hz1 hk1 hb1 hl1 HX hm0
      obtain ⟨a1, f, l, hrs, hz, hk, hl1, hll, hln, hf, H⟩ := hrel
      have hmu := hid hz.atOf
      obtain ⟨f, rfl⟩ : ∃ f', f = f' + 1 := ⟨f - 1, by have := hz.lt; omega⟩
      obtain ⟨ad, cap3, rfl⟩ := hrs.shape
      have hlz := hz.lt
      cases hi33 : isB (tokAt T a1) [33]
      · have HI := hid hi33
        cases hbg : beginsB (tokAt T a1)
        · have HB := hid hbg
          have hm := hid (show catM part T a dep = .ok (joinedM 4 l, a1) from H.out.trans (by simp only [catLoop, hi33, hbg, Bool.or_false, Bool.false_eq_true, if_false]))
          clear H
          go_wp2_with (first | (go_at_call 150; (with_reducible refine (is_any hz _).mono ?_); rintro e w1 ⟨rfl, hb1⟩; rw [HI.out]) | (go_at_call 149; (with_reducible refine (begins_any (hz.below hb1)).mono ?_); rintro e w2 ⟨rfl, hb2⟩; rw [HB.out]) | (go_at_call 145; refine (joined_any (hrs.kept (bp := bp) (Kept.of_below (bnext hb1 hb2)) (by omega)) _).mono ?_; rintro e w4 ⟨hb4, cs, rfl, hr4⟩; obtain ⟨kk4, x4, s4, ad4, n4, cap4, mn4, mx4, rfl⟩ := hr4.cells) | (refine wpList_store_blk rfl 33 (.tmp 2) (.tmp 19) rfl 9 info27 w.heap.size 33 reZ ?hg rfl (reC kk4 x4 s4 (.slice ad4 n4 cap4) mn4 mx4) rfl rfl rfl rfl ?_))
          case hg => exact fin_blk (hk.trans ((Kept.of_below (bnext hb1 hb2)).trans (Kept.of_below hb4))) hbp
          refine bodyPost_ret (results_cell_row rfl _ _ w.heap.size 33 _ (0, 0) _ rfl (setRow_heap (fin_blk (hk.trans ((Kept.of_below (bnext hb1 hb2)).trans (Kept.of_below hb4))) hbp) _) Tryz.underlying33 rfl info27) rfl ?_
          exact fin_re hm.out (hk.trans ((Kept.of_below (bnext hb1 hb2)).trans (Kept.of_below hb4))) (((hz.below hb1).below hb2).below hb4) hbp hbt (hl1) (hr4)
        · have HB := hid hbg
          rcases hx : part a1 dep with ⟨p, y⟩ | ⟨r, a2⟩
          · have hm := hid (show catM part T a dep = .error (p, y) from H.out.trans (by simp only [catLoop, hi33, hbg, hx, Bool.false_or, if_true]))
            have HX := hid hx
            clear hx H
            go_wp2_with (first | (go_at_call 150; (with_reducible refine (is_any hz _).mono ?_); rintro e w1 ⟨rfl, hb1⟩; rw [HI.out]) | (go_at_call 149; (with_reducible refine (begins_any (hz.below hb1)).mono ?_); rintro e w2 ⟨rfl, hb2⟩; rw [HB.out]) | (go_at_call 177; (with_reducible refine (hpart.go hD ((hz.below hb1).below hb2)).mono ?_); rintro e w3 hp; obtain ⟨hk3, rfl⟩ := hp.bad HX.out))
            exact ⟨rfl, RePost.mk_bad hm.out (((Kept.refl bp w).alloc _).trans (hk.trans ((Kept.of_below (bnext hb1 hb2)).trans hk3))) rfl⟩
          · have hm := hid (show catM part T a dep = catLoop part T dep f (l ++ [r]) a2 from H.out.trans (by simp only [catLoop, hi33, hbg, hx, Bool.false_or, if_true]))
            have HX := hid hx
            clear hx H
            go_wp2_with (first | (go_at_call 150; (with_reducible refine (is_any hz _).mono ?_); rintro e w1 ⟨rfl, hb1⟩; rw [HI.out]) | (go_at_call 149; (with_reducible refine (begins_any (hz.below hb1)).mono ?_); rintro e w2 ⟨rfl, hb2⟩; rw [HB.out]) | (go_at_call 177; (with_reducible refine (hpart.go hD ((hz.below hb1).below hb2)).mono ?_); rintro e w3 hp; obtain ⟨hk3, hl3, hz3, cs, rfl, hr⟩ := hp.good HX.out; obtain ⟨kk, x, s, ad2, n, cap2, mn, mx, rfl⟩ := hr.cells) | (at_builtin; have hrs3 := hrs.kept (bp := bp) ((Kept.of_below (bnext hb1 hb2)).trans hk3) (by omega); obtain ⟨xs, HOX, hpx⟩ := hrs3.own; have hc1 := news_blk (heap_alloc_new w3 (.cells (reC kk x s (.slice ad2 n cap2) mn mx) 33)); have hc3 : l.length + 1 ≤ maxLen := (by unfold maxLen; omega); have hc5 : w.heap.size + 1 ≤ (w3.alloc (.cells (reC kk x s (.slice ad2 n cap2) mn mx) 33)).heap.size := Nat.le_trans (by simpa using (hk.trans ((Kept.of_below (bnext hb1 hb2)).trans hk3)).size) (by simp); refine wpList_append_lies _ rfl (.tmp 13) (.tmp 16) 31 rfl (w.heap.size + 1) 33 i0 _ 9 96 Tryz.underlying31 hi iz0 iz1 iz2 rfl (by decide) _ _ xs rfl (HOX.alloc _) ⟨w3.heap.size, 0, none⟩ 1 1 (reC kk x s (.slice ad2 n cap2) mn mx).toList rfl rfl hc1 (one_of_all rfl) Nat.one_pos hc3 (by omega) hc5 (w3.heap.size + 1) (by simp) ?_))
            intro g cap5 w5 ho5 hg5 hat5 hlt5
            have hrow : ∀ g', (Value.slice ad l.length cap3).ownBlock = some g' → w.heap.size + 1 ≤ g' := fun g' hg' => own_block HOX hg'
            have hlow : ∀ g', (Value.slice ad l.length cap3).ownBlock = some g' → g' < w2.heap.size := fun g' hg' => by
              obtain ⟨xs0, ho0, _⟩ := hrs.own
              rcases ownsRow_exist ho0 hg' with hh | hh
              · have := hb1.size; have := hb2.size; omega
              · omega
            have hrs5 := Rs.snoc (r := r) ho5 (hpx.frame (fun _ hg _ => hg) (fun g' _ hg' => alloc_old hg')) (hr.frame (fun _ hg _ => hg) (fun g' _ hg' => alloc_old hg')) hlow (by have := hk.size; have := hb1.size; have := hb2.size; simp at *; omega) hg5 (by simpa using hat5)
            have hz5 := (hz3.below ((Below.refl _ _).alloc (Nat.le_refl _) _)).grown (B := w.heap.size + 1) (by omega) (by omega) hrow hg5
            have hk5 := ((hk.trans ((Kept.of_below (bnext hb1 hb2)).trans hk3)).alloc _).grown (B := w.heap.size + 1) (by simp) hrow hg5
            have hmu5 := hz5.atOf
            clear ho5 hg5 hat5 hpx HOX hrow hlow
            have HM5 := hid hmu5
            clear hmu5
            go_wp2
            go_roundw
            case rel => exact ⟨a2, f, l ++ [r], (by rw [List.length_append] at hrs5; exact hrs5), hz5, hk5, by omega, by simp; omega, by simp, by omega, hm.out⟩
            case measure => rw [hmu.out, HM5.out]; omega
      · have HI := hid hi33
        rcases hx : part a1 dep with ⟨p, y⟩ | ⟨r, a2⟩
        · have hm := hid (show catM part T a dep = .error (p, y) from H.out.trans (by simp only [catLoop, hi33, hx, Bool.true_or, if_true]))
          have HX := hid hx
          clear hx H
          go_wp2_with (first | (go_at_call 150; (with_reducible refine (is_any hz _).mono ?_); rintro e w1 ⟨rfl, hb1⟩; rw [HI.out]) | (go_at_call 177; (with_reducible refine (hpart.go hD (hz.below hb1)).mono ?_); rintro e w3 hp; obtain ⟨hk3, rfl⟩ := hp.bad HX.out))
          exact ⟨rfl, RePost.mk_bad hm.out (((Kept.refl bp w).alloc _).trans (hk.trans ((Kept.of_below hb1).trans hk3))) rfl⟩
        · have hm := hid (show catM part T a dep = catLoop part T dep f (l ++ [r]) a2 from H.out.trans (by simp only [catLoop, hi33, hx, Bool.true_or, if_true]))
          have HX := hid hx
          clear hx H
          go_wp2_with (first | (go_at_call 150; (with_reducible refine (is_any hz _).mono ?_); rintro e w1 ⟨rfl, hb1⟩; rw [HI.out]) | (go_at_call 177; (with_reducible refine (hpart.go hD (hz.below hb1)).mono ?_); rintro e w3 hp; obtain ⟨hk3, hl3, hz3, cs, rfl, hr⟩ := hp.good HX.out; obtain ⟨kk, x, s, ad2, n, cap2, mn, mx, rfl⟩ := hr.cells) | (at_builtin; have hrs3 := hrs.kept (bp := bp) ((Kept.of_below hb1).trans hk3) (by omega); obtain ⟨xs, HOX, hpx⟩ := hrs3.own; have hc1 := news_blk (heap_alloc_new w3 (.cells (reC kk x s (.slice ad2 n cap2) mn mx) 33)); have hc3 : l.length + 1 ≤ maxLen := (by unfold maxLen; omega); have hc5 : w.heap.size + 1 ≤ (w3.alloc (.cells (reC kk x s (.slice ad2 n cap2) mn mx) 33)).heap.size := Nat.le_trans (by simpa using (hk.trans ((Kept.of_below hb1).trans hk3)).size) (by simp); refine wpList_append_lies _ rfl (.tmp 13) (.tmp 16) 31 rfl (w.heap.size + 1) 33 i0 _ 9 96 Tryz.underlying31 hi iz0 iz1 iz2 rfl (by decide) _ _ xs rfl (HOX.alloc _) ⟨w3.heap.size, 0, none⟩ 1 1 (reC kk x s (.slice ad2 n cap2) mn mx).toList rfl rfl hc1 (one_of_all rfl) Nat.one_pos hc3 (by omega) hc5 (w3.heap.size + 1) (by simp) ?_))
          intro g cap5 w5 ho5 hg5 hat5 hlt5
          have hrow : ∀ g', (Value.slice ad l.length cap3).ownBlock = some g' → w.heap.size + 1 ≤ g' := fun g' hg' => own_block HOX hg'
          have hlow : ∀ g', (Value.slice ad l.length cap3).ownBlock = some g' → g' < w1.heap.size := fun g' hg' => by
            obtain ⟨xs0, ho0, _⟩ := hrs.own
            rcases ownsRow_exist ho0 hg' with hh | hh
            · have := hb1.size; omega
            · omega
          have hrs5 := Rs.snoc (r := r) ho5 (hpx.frame (fun _ hg _ => hg) (fun g' _ hg' => alloc_old hg')) (hr.frame (fun _ hg _ => hg) (fun g' _ hg' => alloc_old hg')) hlow (by have := hk.size; have := hb1.size; simp at *; omega) hg5 (by simpa using hat5)
          have hz5 := (hz3.below ((Below.refl _ _).alloc (Nat.le_refl _) _)).grown (B := w.heap.size + 1) (by omega) (by omega) hrow hg5
          have hk5 := ((hk.trans ((Kept.of_below hb1).trans hk3)).alloc _).grown (B := w.heap.size + 1) (by simp) hrow hg5
          have hmu5 := hz5.atOf
          clear ho5 hg5 hat5 hpx HOX hrow hlow
          have HM5 := hid hmu5
          clear hmu5
          go_wp2
          go_roundw
          case rel => exact ⟨a2, f, l ++ [r], (by rw [List.length_append] at hrs5; exact hrs5), hz5, hk5, by omega, by simp; omega, by simp, by omega, hm.out⟩
          case measure => rw [hmu.out, HM5.out]; omega

set_option maxRecDepth 100000 in
set_option maxHeartbeats 4000000 in
theorem row_and {T : List Tok} {D : Nat → Prop} {part : Nat → Nat → R} (hpart : Parses T 146 D part) {bp bt cap a dep : Nat} {w : World} (hD : D dep) (h : Pz T bp bt cap a dep w) :
    Calls Tryz.prog 108 #[.pointer (some ⟨bp, 0, none⟩), .int .i64 6, .string ⟨#[38]⟩, .func (.func 146) #[] #[]] w (RePost T bp bt cap a dep w (rowM 6 [38] part T a dep)) := by
  have hbp := h.bp_lt
  have hbt := h.inb
  have hfew := h.few
  have hlt0 := h.lt
  have h0 : Pz T bp bt cap a dep (w.alloc (.cells reZ 33)) := h.below ((Below.refl _ _).alloc (Nat.le_refl _) _)
  obtain ⟨i0, hi, iz0, iz1, iz2⟩ := info_parts info27'
  rcases hx : part a dep with ⟨p, y⟩ | ⟨r, a1⟩
  · have hm := hid (show rowM 6 [38] part T a dep = .error (p, y) by simp only [rowM, hx])
    have HX := hid hx
    clear hx
    go_enter Tryz.func108, Tryz.ntmps108
    go_wp2_with (go_at_call 146; (with_reducible refine (hpart.go hD h0).mono ?_); rintro e w1 hp; obtain ⟨hk1, rfl⟩ := hp.bad HX.out)
    exact ⟨rfl, RePost.mk_bad hm.out (((Kept.refl bp w).alloc _).trans hk1) rfl⟩
  · have hm0 := hid (show rowM 6 [38] part T a dep = rowLoop part T dep 6 [38] (T.length + 1) [r] a1 by simp only [rowM, hx])
    have HX := hid hx
    clear hx
    go_enter Tryz.func108, Tryz.ntmps108
    go_wp2_with (go_at_call 146; (with_reducible refine (hpart.go hD h0).mono ?_); rintro e w1 hp; obtain ⟨hk1, hl1, hz1, cs, rfl, hr⟩ := hp.good HX.out; obtain ⟨kk, x, s, ad, n, cap2, mn, mx, rfl⟩ := hr.cells)
    have hb1 : w.heap.size + 1 ≤ w1.heap.size := by have := hk1.size; simpa using this
    have hr0 : ReAt (w.heap.size + 1) w1 r (reC kk x s (.slice ad n cap2) mn mx) := hr.up (by simp)
    have hat1 : atOf bp (w1.alloc (.cells (reC kk x s (.slice ad n cap2) mn mx) 33)) = a1 := (hz1.below ((Below.refl _ _).alloc (Nat.le_refl _) _)).atOf
    go_loopw [9] (fun v wr => ∃ (a1 f : Nat) (l : List Re), Rs (w.heap.size + 1) wr l v ∧ Pz T bp bt cap a1 dep wr ∧ Kept bp (w.alloc (.cells reZ 33)) wr ∧ a < a1 ∧ l.length ≤ a1 ∧ 1 ≤ l.length ∧ T.length < a1 + f ∧ Hid (rowM 6 [38] part T a dep = rowLoop part T dep 6 [38] f l a1)) (fun _ wr => T.length - atOf bp wr)
    case atStart => exact ⟨a1, T.length + 1, [r], Rs.single hr0 hb1, hz1.below ((Below.refl _ _).alloc (Nat.le_refl _) _), hk1.alloc _, hl1, by simp; omega, by simp, by omega, hm0.out⟩
    case round =>
      clear hat1 hr0 hr hz1 hk1 hb1 hl1 HX hm0
      obtain ⟨a1, f, l, hrs, hz, hk, hl1, hll, hln, hf, H⟩ := hrel
      have hmu := hid hz.atOf
      obtain ⟨f, rfl⟩ : ∃ f', f = f' + 1 := ⟨f - 1, by have := hz.lt; omega⟩
      obtain ⟨ad, cap3, rfl⟩ := hrs.shape
      have hlz := hz.lt
      cases hi0 : isB (tokAt T a1) [38]
      · have hm := hid (show rowM 6 [38] part T a dep = .ok (joinedM 6 l, a1) from H.out.trans (by simp only [rowLoop, hi0, Bool.false_eq_true, if_false]))
        clear H
        go_wp2_with (first | (go_at_call 118; (with_reducible refine (take_no hz _ hi0).mono ?_); rintro e w1 ⟨rfl, hb1⟩) | (go_at_call 145; refine (joined_any (hrs.kept (bp := bp) (Kept.of_below hb1) (by omega)) _).mono ?_; rintro e w4 ⟨hb4, cs, rfl, hr4⟩; obtain ⟨kk4, x4, s4, ad4, n4, cap4, mn4, mx4, rfl⟩ := hr4.cells) | (refine wpList_store_blk rfl 33 (.tmp 8) (.tmp 25) rfl 9 info27 w.heap.size 33 reZ ?hg rfl (reC kk4 x4 s4 (.slice ad4 n4 cap4) mn4 mx4) rfl rfl rfl rfl ?_))
        case hg => exact fin_blk (hk.trans ((Kept.of_below hb1).trans (Kept.of_below hb4))) hbp
        refine bodyPost_ret (results_cell_row rfl _ _ w.heap.size 33 _ (0, 0) _ rfl (setRow_heap (fin_blk (hk.trans ((Kept.of_below hb1).trans (Kept.of_below hb4))) hbp) _) Tryz.underlying33 rfl info27) rfl ?_
        exact fin_re hm.out (hk.trans ((Kept.of_below hb1).trans (Kept.of_below hb4))) ((hz.below hb1).below hb4) hbp hbt (hl1) (hr4)
      · rcases hx : part (a1 + 1) dep with ⟨p, y⟩ | ⟨r, a2⟩
        · have hm := hid (show rowM 6 [38] part T a dep = .error (p, y) from H.out.trans (by simp only [rowLoop, hi0, hx, if_true]))
          have HX := hid hx
          clear hx H
          go_wp2_with (first | (go_at_call 118; (with_reducible refine (take_yes hz _ hi0).mono ?_); rintro e w1 ⟨rfl, hk1, hz1⟩) | (go_at_call 146; (with_reducible refine (hpart.go hD hz1).mono ?_); rintro e w3 hp; obtain ⟨hk3, rfl⟩ := hp.bad HX.out))
          exact ⟨rfl, RePost.mk_bad hm.out (((Kept.refl bp w).alloc _).trans (hk.trans ((hk1).trans hk3))) rfl⟩
        · have hm := hid (show rowM 6 [38] part T a dep = rowLoop part T dep 6 [38] f (l ++ [r]) a2 from H.out.trans (by simp only [rowLoop, hi0, hx, if_true]))
          have HX := hid hx
          clear hx H
          go_wp2_with (first | (go_at_call 118; (with_reducible refine (take_yes hz _ hi0).mono ?_); rintro e w1 ⟨rfl, hk1, hz1⟩) | (go_at_call 146; (with_reducible refine (hpart.go hD hz1).mono ?_); rintro e w3 hp; obtain ⟨hk3, hl3, hz3, cs, rfl, hr⟩ := hp.good HX.out; obtain ⟨kk, x, s, ad2, n, cap2, mn, mx, rfl⟩ := hr.cells) | (at_builtin; have hrs3 := hrs.kept (bp := bp) ((hk1).trans hk3) (by omega); obtain ⟨xs, HOX, hpx⟩ := hrs3.own; have hc1 := news_blk (heap_alloc_new w3 (.cells (reC kk x s (.slice ad2 n cap2) mn mx) 33)); have hc3 : l.length + 1 ≤ maxLen := (by unfold maxLen; omega); have hc5 : w.heap.size + 1 ≤ (w3.alloc (.cells (reC kk x s (.slice ad2 n cap2) mn mx) 33)).heap.size := Nat.le_trans (by simpa using (hk.trans ((hk1).trans hk3)).size) (by simp); refine wpList_append_lies _ rfl (.tmp 17) (.tmp 21) 31 rfl (w.heap.size + 1) 33 i0 _ 9 96 Tryz.underlying31 hi iz0 iz1 iz2 rfl (by decide) _ _ xs rfl (HOX.alloc _) ⟨w3.heap.size, 0, none⟩ 1 1 (reC kk x s (.slice ad2 n cap2) mn mx).toList rfl rfl hc1 (one_of_all rfl) Nat.one_pos hc3 (by omega) hc5 (w3.heap.size + 1) (by simp) ?_))
          intro g cap5 w5 ho5 hg5 hat5 hlt5
          have hrow : ∀ g', (Value.slice ad l.length cap3).ownBlock = some g' → w.heap.size + 1 ≤ g' := fun g' hg' => own_block HOX hg'
          have hlow : ∀ g', (Value.slice ad l.length cap3).ownBlock = some g' → g' < w1.heap.size := fun g' hg' => by
            obtain ⟨xs0, ho0, _⟩ := hrs.own
            rcases ownsRow_exist ho0 hg' with hh | hh
            · have := hk1.size; omega
            · omega
          have hrs5 := Rs.snoc (r := r) ho5 (hpx.frame (fun _ hg _ => hg) (fun g' _ hg' => alloc_old hg')) (hr.frame (fun _ hg _ => hg) (fun g' _ hg' => alloc_old hg')) hlow (by have := hk.size; have := hk1.size; simp at *; omega) hg5 (by simpa using hat5)
          have hz5 := (hz3.below ((Below.refl _ _).alloc (Nat.le_refl _) _)).grown (B := w.heap.size + 1) (by omega) (by omega) hrow hg5
          have hk5 := ((hk.trans ((hk1).trans hk3)).alloc _).grown (B := w.heap.size + 1) (by simp) hrow hg5
          have hmu5 := hz5.atOf
          clear ho5 hg5 hat5 hpx HOX hrow hlow
          have HM5 := hid hmu5
          clear hmu5
          go_wp2
          go_roundw
          case rel => exact ⟨a2, f, l ++ [r], (by rw [List.length_append] at hrs5; exact hrs5), hz5, hk5, by omega, by simp; omega, by simp, by omega, hm.out⟩
          case measure => rw [hmu.out, HM5.out]; omega

set_option maxRecDepth 100000 in
set_option maxHeartbeats 4000000 in
theorem row_alt {T : List Tok} {D : Nat → Prop} {part : Nat → Nat → R} (hpart : Parses T 109 D part) {bp bt cap a dep : Nat} {w : World} (hD : D dep) (h : Pz T bp bt cap a dep w) :
    Calls Tryz.prog 108 #[.pointer (some ⟨bp, 0, none⟩), .int .i64 5, .string ⟨#[124]⟩, .func (.func 109) #[] #[]] w (RePost T bp bt cap a dep w (rowM 5 [124] part T a dep)) := by
  have hbp := h.bp_lt
  have hbt := h.inb
  have hfew := h.few
  have hlt0 := h.lt
  have h0 : Pz T bp bt cap a dep (w.alloc (.cells reZ 33)) := h.below ((Below.refl _ _).alloc (Nat.le_refl _) _)
  obtain ⟨i0, hi, iz0, iz1, iz2⟩ := info_parts info27'
  rcases hx : part a dep with ⟨p, y⟩ | ⟨r, a1⟩
  · have hm := hid (show rowM 5 [124] part T a dep = .error (p, y) by simp only [rowM, hx])
    have HX := hid hx
    clear hx
    go_enter Tryz.func108, Tryz.ntmps108
    go_wp2_with (go_at_call 109; (with_reducible refine (hpart.go hD h0).mono ?_); rintro e w1 hp; obtain ⟨hk1, rfl⟩ := hp.bad HX.out)
    exact ⟨rfl, RePost.mk_bad hm.out (((Kept.refl bp w).alloc _).trans hk1) rfl⟩
  · have hm0 := hid (show rowM 5 [124] part T a dep = rowLoop part T dep 5 [124] (T.length + 1) [r] a1 by simp only [rowM, hx])
    have HX := hid hx
    clear hx
    go_enter Tryz.func108, Tryz.ntmps108
    go_wp2_with (go_at_call 109; (with_reducible refine (hpart.go hD h0).mono ?_); rintro e w1 hp; obtain ⟨hk1, hl1, hz1, cs, rfl, hr⟩ := hp.good HX.out; obtain ⟨kk, x, s, ad, n, cap2, mn, mx, rfl⟩ := hr.cells)
    have hb1 : w.heap.size + 1 ≤ w1.heap.size := by have := hk1.size; simpa using this
    have hr0 : ReAt (w.heap.size + 1) w1 r (reC kk x s (.slice ad n cap2) mn mx) := hr.up (by simp)
    have hat1 : atOf bp (w1.alloc (.cells (reC kk x s (.slice ad n cap2) mn mx) 33)) = a1 := (hz1.below ((Below.refl _ _).alloc (Nat.le_refl _) _)).atOf
    go_loopw [9] (fun v wr => ∃ (a1 f : Nat) (l : List Re), Rs (w.heap.size + 1) wr l v ∧ Pz T bp bt cap a1 dep wr ∧ Kept bp (w.alloc (.cells reZ 33)) wr ∧ a < a1 ∧ l.length ≤ a1 ∧ 1 ≤ l.length ∧ T.length < a1 + f ∧ Hid (rowM 5 [124] part T a dep = rowLoop part T dep 5 [124] f l a1)) (fun _ wr => T.length - atOf bp wr)
    case atStart => exact ⟨a1, T.length + 1, [r], Rs.single hr0 hb1, hz1.below ((Below.refl _ _).alloc (Nat.le_refl _) _), hk1.alloc _, hl1, by simp; omega, by simp, by omega, hm0.out⟩
    case round =>
      clear hat1 hr0 hr hz1 hk1 hb1 hl1 HX hm0
      obtain ⟨a1, f, l, hrs, hz, hk, hl1, hll, hln, hf, H⟩ := hrel
      have hmu := hid hz.atOf
      obtain ⟨f, rfl⟩ : ∃ f', f = f' + 1 := ⟨f - 1, by have := hz.lt; omega⟩
      obtain ⟨ad, cap3, rfl⟩ := hrs.shape
      have hlz := hz.lt
      cases hi0 : isB (tokAt T a1) [124]
      · have hm := hid (show rowM 5 [124] part T a dep = .ok (joinedM 5 l, a1) from H.out.trans (by simp only [rowLoop, hi0, Bool.false_eq_true, if_false]))
        clear H
        go_wp2_with (first | (go_at_call 118; (with_reducible refine (take_no hz _ hi0).mono ?_); rintro e w1 ⟨rfl, hb1⟩) | (go_at_call 145; refine (joined_any (hrs.kept (bp := bp) (Kept.of_below hb1) (by omega)) _).mono ?_; rintro e w4 ⟨hb4, cs, rfl, hr4⟩; obtain ⟨kk4, x4, s4, ad4, n4, cap4, mn4, mx4, rfl⟩ := hr4.cells) | (refine wpList_store_blk rfl 33 (.tmp 8) (.tmp 25) rfl 9 info27 w.heap.size 33 reZ ?hg rfl (reC kk4 x4 s4 (.slice ad4 n4 cap4) mn4 mx4) rfl rfl rfl rfl ?_))
        case hg => exact fin_blk (hk.trans ((Kept.of_below hb1).trans (Kept.of_below hb4))) hbp
        refine bodyPost_ret (results_cell_row rfl _ _ w.heap.size 33 _ (0, 0) _ rfl (setRow_heap (fin_blk (hk.trans ((Kept.of_below hb1).trans (Kept.of_below hb4))) hbp) _) Tryz.underlying33 rfl info27) rfl ?_
        exact fin_re hm.out (hk.trans ((Kept.of_below hb1).trans (Kept.of_below hb4))) ((hz.below hb1).below hb4) hbp hbt (hl1) (hr4)
      · rcases hx : part (a1 + 1) dep with ⟨p, y⟩ | ⟨r, a2⟩
        · have hm := hid (show rowM 5 [124] part T a dep = .error (p, y) from H.out.trans (by simp only [rowLoop, hi0, hx, if_true]))
          have HX := hid hx
          clear hx H
          go_wp2_with (first | (go_at_call 118; (with_reducible refine (take_yes hz _ hi0).mono ?_); rintro e w1 ⟨rfl, hk1, hz1⟩) | (go_at_call 109; (with_reducible refine (hpart.go hD hz1).mono ?_); rintro e w3 hp; obtain ⟨hk3, rfl⟩ := hp.bad HX.out))
          exact ⟨rfl, RePost.mk_bad hm.out (((Kept.refl bp w).alloc _).trans (hk.trans ((hk1).trans hk3))) rfl⟩
        · have hm := hid (show rowM 5 [124] part T a dep = rowLoop part T dep 5 [124] f (l ++ [r]) a2 from H.out.trans (by simp only [rowLoop, hi0, hx, if_true]))
          have HX := hid hx
          clear hx H
          go_wp2_with (first | (go_at_call 118; (with_reducible refine (take_yes hz _ hi0).mono ?_); rintro e w1 ⟨rfl, hk1, hz1⟩) | (go_at_call 109; (with_reducible refine (hpart.go hD hz1).mono ?_); rintro e w3 hp; obtain ⟨hk3, hl3, hz3, cs, rfl, hr⟩ := hp.good HX.out; obtain ⟨kk, x, s, ad2, n, cap2, mn, mx, rfl⟩ := hr.cells) | (at_builtin; have hrs3 := hrs.kept (bp := bp) ((hk1).trans hk3) (by omega); obtain ⟨xs, HOX, hpx⟩ := hrs3.own; have hc1 := news_blk (heap_alloc_new w3 (.cells (reC kk x s (.slice ad2 n cap2) mn mx) 33)); have hc3 : l.length + 1 ≤ maxLen := (by unfold maxLen; omega); have hc5 : w.heap.size + 1 ≤ (w3.alloc (.cells (reC kk x s (.slice ad2 n cap2) mn mx) 33)).heap.size := Nat.le_trans (by simpa using (hk.trans ((hk1).trans hk3)).size) (by simp); refine wpList_append_lies _ rfl (.tmp 17) (.tmp 21) 31 rfl (w.heap.size + 1) 33 i0 _ 9 96 Tryz.underlying31 hi iz0 iz1 iz2 rfl (by decide) _ _ xs rfl (HOX.alloc _) ⟨w3.heap.size, 0, none⟩ 1 1 (reC kk x s (.slice ad2 n cap2) mn mx).toList rfl rfl hc1 (one_of_all rfl) Nat.one_pos hc3 (by omega) hc5 (w3.heap.size + 1) (by simp) ?_))
          intro g cap5 w5 ho5 hg5 hat5 hlt5
          have hrow : ∀ g', (Value.slice ad l.length cap3).ownBlock = some g' → w.heap.size + 1 ≤ g' := fun g' hg' => own_block HOX hg'
          have hlow : ∀ g', (Value.slice ad l.length cap3).ownBlock = some g' → g' < w1.heap.size := fun g' hg' => by
            obtain ⟨xs0, ho0, _⟩ := hrs.own
            rcases ownsRow_exist ho0 hg' with hh | hh
            · have := hk1.size; omega
            · omega
          have hrs5 := Rs.snoc (r := r) ho5 (hpx.frame (fun _ hg _ => hg) (fun g' _ hg' => alloc_old hg')) (hr.frame (fun _ hg _ => hg) (fun g' _ hg' => alloc_old hg')) hlow (by have := hk.size; have := hk1.size; simp at *; omega) hg5 (by simpa using hat5)
          have hz5 := (hz3.below ((Below.refl _ _).alloc (Nat.le_refl _) _)).grown (B := w.heap.size + 1) (by omega) (by omega) hrow hg5
          have hk5 := ((hk.trans ((hk1).trans hk3)).alloc _).grown (B := w.heap.size + 1) (by simp) hrow hg5
          have hmu5 := hz5.atOf
          clear ho5 hg5 hat5 hpx HOX hrow hlow
          have HM5 := hid hmu5
          clear hmu5
          go_wp2
          go_roundw
          case rel => exact ⟨a2, f, l ++ [r], (by rw [List.length_append] at hrs5; exact hrs5), hz5, hk5, by omega, by simp; omega, by simp, by omega, hm.out⟩
          case measure => rw [hmu.out, HM5.out]; omega
end Go.Proofs.YtfljcfdfgojdoaaGreatDoor

namespace Go.Proofs.YtfljcfdfgojdoaaGreatDoor
open Go.RowKit Go.Lib

set_option maxRecDepth 100000 in
set_option maxHeartbeats 1000000 in
theorem and_calls {T : List Tok} {D : Nat → Prop} {part : Nat → Nat → R} (hpart : Parses T 146 D part) : Parses T 109 D (rowM 6 [38] part T) := by
  intro bp bt cap a dep w hD h
  have hbp := h.bp_lt
  have hbt := h.inb
  have h0 : Pz T bp bt cap a dep (w.alloc (.cells reZ 33)) := h.below ((Below.refl _ _).alloc (Nat.le_refl _) _)
  rcases hx : rowM 6 [38] part T a dep with ⟨p, y⟩ | ⟨r, a1⟩
  · have HX := hid hx
    clear hx
    go_enter Tryz.func109, Tryz.ntmps109
    go_wp2_with (go_at_call 108; refine (row_and hpart hD h0).mono ?_; rintro e w1 hp; obtain ⟨hk1, rfl⟩ := hp.bad HX.out)
    exact ⟨rfl, RePost.mk_bad rfl (((Kept.refl bp w).alloc _).trans hk1) rfl⟩
  · have hm := hid hx
    clear hx
    go_enter Tryz.func109, Tryz.ntmps109
    go_wp2_with (first | (go_at_call 108; refine (row_and hpart hD h0).mono ?_; rintro e w1 hp; obtain ⟨hk1, hl1, hz1, cs, rfl, hr⟩ := hp.good hm.out; obtain ⟨kk, x, s, ad, n, cap2, mn, mx, rfl⟩ := hr.cells) | (refine wpList_store_blk rfl 33 (.tmp 2) (.tmp 4) rfl 9 info27 w.heap.size 33 reZ ?hg rfl (reC kk x s (.slice ad n cap2) mn mx) rfl rfl rfl rfl ?_))
    case hg => exact fin_blk hk1 hbp
    refine bodyPost_ret (results_cell_row rfl _ _ w.heap.size 33 _ (0, 0) _ rfl (setRow_heap (fin_blk (hk1) hbp) _) Tryz.underlying33 rfl info27) rfl ?_
    exact fin_re rfl (hk1) (hz1) hbp hbt (hl1) (hr.up (by simp))

set_option maxRecDepth 100000 in
set_option maxHeartbeats 1000000 in
theorem alt_calls {T : List Tok} {D : Nat → Prop} {part : Nat → Nat → R} (hpart : Parses T 109 D part) : Parses T 52 D (rowM 5 [124] part T) := by
  intro bp bt cap a dep w hD h
  have hbp := h.bp_lt
  have hbt := h.inb
  have h0 : Pz T bp bt cap a dep (w.alloc (.cells reZ 33)) := h.below ((Below.refl _ _).alloc (Nat.le_refl _) _)
  rcases hx : rowM 5 [124] part T a dep with ⟨p, y⟩ | ⟨r, a1⟩
  · have HX := hid hx
    clear hx
    go_enter Tryz.func52, Tryz.ntmps52
    go_wp2_with (go_at_call 108; refine (row_alt hpart hD h0).mono ?_; rintro e w1 hp; obtain ⟨hk1, rfl⟩ := hp.bad HX.out)
    exact ⟨rfl, RePost.mk_bad rfl (((Kept.refl bp w).alloc _).trans hk1) rfl⟩
  · have hm := hid hx
    clear hx
    go_enter Tryz.func52, Tryz.ntmps52
    go_wp2_with (first | (go_at_call 108; refine (row_alt hpart hD h0).mono ?_; rintro e w1 hp; obtain ⟨hk1, hl1, hz1, cs, rfl, hr⟩ := hp.good hm.out; obtain ⟨kk, x, s, ad, n, cap2, mn, mx, rfl⟩ := hr.cells) | (refine wpList_store_blk rfl 33 (.tmp 2) (.tmp 4) rfl 9 info27 w.heap.size 33 reZ ?hg rfl (reC kk x s (.slice ad n cap2) mn mx) rfl rfl rfl rfl ?_))
    case hg => exact fin_blk hk1 hbp
    refine bodyPost_ret (results_cell_row rfl _ _ w.heap.size 33 _ (0, 0) _ rfl (setRow_heap (fin_blk (hk1) hbp) _) Tryz.underlying33 rfl info27) rfl ?_
    exact fin_re rfl (hk1) (hz1) hbp hbt (hl1) (hr.up (by simp))

theorem alt_all (T : List Tok) : ∀ n, Parses T 52 (fun d => 33 ≤ n + d) (altM notNone T n) := by
  intro n
  induction n with
  | zero =>
    intro bp bt cap a dep w hD h
    have := h.dle
    omega
  | succ n ih =>
    have h1 : Parses T 229 (fun d => 33 ≤ n + 1 + d) (atomM notNone (altM notNone T n) T) := fun bp bt cap a dep w hD h => atom_calls ih bp bt cap a dep w (by show 33 ≤ n + (dep + 1); omega) h
    have h2 := rep_any h1
    have h3 : Parses T 177 (fun d => 33 ≤ n + 1 + d) (notM (repM (atomM notNone (altM notNone T n) T) T) T 40) := fun bp bt cap a dep w hD h => not_calls (fun d hd => by omega) h2 40 bp bt cap a dep w ⟨hD, by omega⟩ h
    exact alt_calls (and_calls (cat_calls h3))
end Go.Proofs.YtfljcfdfgojdoaaGreatDoor
