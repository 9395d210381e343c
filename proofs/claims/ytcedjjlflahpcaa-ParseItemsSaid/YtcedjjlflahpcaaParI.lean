/-
  The contracts of row, and, alt: alt at every depth, by induction.
-/
import Derived.Test.YtcedjjlflahpcaaParH
namespace Go.Proofs.Ytcedjjlflahpcaa
open Go.RowKit Go.Lib

set_option maxRecDepth 100000 in
set_option maxHeartbeats 1000000 in
theorem and_calls {T : List Tok} {D : Nat → Prop} {part : Nat → Nat → R} (hpart : Parses T 35 D part) : Parses T 25 D (rowM 6 [38] part T) := by
  intro bp bt cap a dep w hD h
  have hbp := h.bp_lt
  have hbt := h.inb
  have h0 : Pz T bp bt cap a dep (w.alloc (.cells reZ 27)) := h.below ((Below.refl _ _).alloc (Nat.le_refl _) _)
  rcases hx : rowM 6 [38] part T a dep with ⟨p, y⟩ | ⟨r, a1⟩
  · have HX := hid hx
    clear hx
    go_enter Try.func25, Try.ntmps25
    go_wp2_with (go_at_call 24; refine (row_and hpart hD h0).mono ?_; rintro e w1 hp; obtain ⟨hk1, rfl⟩ := hp.bad HX.out)
    exact ⟨rfl, RePost.mk_bad rfl (((Kept.refl bp w).alloc _).trans hk1) rfl⟩
  · have hm := hid hx
    clear hx
    go_enter Try.func25, Try.ntmps25
    go_wp2_with (first | (go_at_call 24; refine (row_and hpart hD h0).mono ?_; rintro e w1 hp; obtain ⟨hk1, hl1, hz1, cs, rfl, hr⟩ := hp.good hm.out; obtain ⟨kk, x, s, ad, n, cap2, mn, mx, rfl⟩ := hr.cells) | (refine wpList_store_blk rfl 27 (.tmp 2) (.tmp 4) rfl 9 info27 w.heap.size 27 reZ ?hg rfl (reC kk x s (.slice ad n cap2) mn mx) rfl rfl rfl rfl ?_))
    case hg => exact fin_blk hk1 hbp
    refine bodyPost_ret (results_cell_row rfl _ _ w.heap.size 27 _ (0, 0) _ rfl (setRow_heap (fin_blk (hk1) hbp) _) Try.underlying27 rfl info27) rfl ?_
    exact fin_re rfl (hk1) (hz1) hbp hbt (hl1) (hr.up (by simp))

set_option maxRecDepth 100000 in
set_option maxHeartbeats 1000000 in
theorem alt_calls {T : List Tok} {D : Nat → Prop} {part : Nat → Nat → R} (hpart : Parses T 25 D part) : Parses T 13 D (rowM 5 [124] part T) := by
  intro bp bt cap a dep w hD h
  have hbp := h.bp_lt
  have hbt := h.inb
  have h0 : Pz T bp bt cap a dep (w.alloc (.cells reZ 27)) := h.below ((Below.refl _ _).alloc (Nat.le_refl _) _)
  rcases hx : rowM 5 [124] part T a dep with ⟨p, y⟩ | ⟨r, a1⟩
  · have HX := hid hx
    clear hx
    go_enter Try.func13, Try.ntmps13
    go_wp2_with (go_at_call 24; refine (row_alt hpart hD h0).mono ?_; rintro e w1 hp; obtain ⟨hk1, rfl⟩ := hp.bad HX.out)
    exact ⟨rfl, RePost.mk_bad rfl (((Kept.refl bp w).alloc _).trans hk1) rfl⟩
  · have hm := hid hx
    clear hx
    go_enter Try.func13, Try.ntmps13
    go_wp2_with (first | (go_at_call 24; refine (row_alt hpart hD h0).mono ?_; rintro e w1 hp; obtain ⟨hk1, hl1, hz1, cs, rfl, hr⟩ := hp.good hm.out; obtain ⟨kk, x, s, ad, n, cap2, mn, mx, rfl⟩ := hr.cells) | (refine wpList_store_blk rfl 27 (.tmp 2) (.tmp 4) rfl 9 info27 w.heap.size 27 reZ ?hg rfl (reC kk x s (.slice ad n cap2) mn mx) rfl rfl rfl rfl ?_))
    case hg => exact fin_blk hk1 hbp
    refine bodyPost_ret (results_cell_row rfl _ _ w.heap.size 27 _ (0, 0) _ rfl (setRow_heap (fin_blk (hk1) hbp) _) Try.underlying27 rfl info27) rfl ?_
    exact fin_re rfl (hk1) (hz1) hbp hbt (hl1) (hr.up (by simp))

theorem alt_all (T : List Tok) : ∀ n, Parses T 13 (fun d => 33 ≤ n + d) (altM notNone T n) := by
  intro n
  induction n with
  | zero =>
    intro bp bt cap a dep w hD h
    have := h.dle
    omega
  | succ n ih =>
    have h1 : Parses T 66 (fun d => 33 ≤ n + 1 + d) (atomM notNone (altM notNone T n) T) := fun bp bt cap a dep w hD h => atom_calls ih bp bt cap a dep w (by show 33 ≤ n + (dep + 1); omega) h
    have h2 := rep_any h1
    have h3 : Parses T 44 (fun d => 33 ≤ n + 1 + d) (notM (repM (atomM notNone (altM notNone T n) T) T) T 40) := fun bp bt cap a dep w hD h => not_calls (fun d hd => by omega) h2 40 bp bt cap a dep w ⟨hD, by omega⟩ h
    exact alt_calls (and_calls (cat_calls h3))
end Go.Proofs.Ytcedjjlflahpcaa
