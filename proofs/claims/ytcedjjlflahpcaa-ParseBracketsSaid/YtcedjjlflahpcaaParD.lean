/-
  The contract of leaf.
-/
import Derived.Test.YtcedjjlflahpcaaParC
namespace Go.Proofs.Ytcedjjlflahpcaa
open Go.RowKit Go.Lib

abbrev notNone : Se := notS Se.none
theorem RePost.mk_ok {T : List Tok} {bp bt cap a dep : Nat} {w w' : World} {x : R} {r : Re} {a' : Nat} {e : Ending} {cs : Array Value} (hx : x = .ok (r, a')) (hk : Kept bp w w') (hl : a < a') (hz : Pz T bp bt cap a' dep w') (he : e = .returned (.agg cs)) (hr : ReAt w.heap.size w' r cs) : RePost T bp bt cap a dep w x e w' := by
  subst hx; exact ⟨hk, hl, hz, cs, he, hr⟩
theorem RePost.mk_bad {T : List Tok} {bp bt cap a dep : Nat} {w w' : World} {x : R} {p y : Int} {e : Ending} (hx : x = .error (p, y)) (hk : Kept bp w w') (he : e = faultE p y) : RePost T bp bt cap a dep w x e w' := by
  subst hx; exact ⟨hk, he⟩
theorem fin_re {T : List Tok} {bp bt cap a dep : Nat} {w wx : World} {x : R} {r : Re} {a' : Nat} {cs : Array Value} (hx : x = .ok (r, a')) (hk : Kept bp (w.alloc (.cells reZ 27)) wx) (hz : Pz T bp bt cap a' dep wx) (hbp : bp < w.heap.size) (hbt : bt < w.heap.size) (hl : a < a') (hr : ReAt (w.heap.size + 1) wx r cs) :
    RePost T bp bt cap a dep w x (.returned (.agg cs)) (wx.setRow w.heap.size cs) :=
  RePost.mk_ok hx (fin_kept hk hbp _) hl (hz.setRow (by omega) (by omega) _) rfl (hr.frame (fun g hg _ => by omega) (fun g hg _ => setRow_other cs (by omega)))
theorem ReIn.up {base b2 : Nat} {w : World} {r : Re} {cs : Array Value} (h : ReAt base w r cs) (hb : b2 ≤ base) : ReAt b2 w r cs := h.frame (fun _ hg _ => Nat.le_trans hb hg) (fun _ _ _ => rfl)
theorem leafM_name {T : List Tok} {a : Nat} (k2 : ((tokAt T a).kind == 2) = false) (k3 : ((tokAt T a).kind == 3) = false) (k1 : ((tokAt T a).kind == 1) = true) :
    leafM notNone T a = match nameM T a with | .error e => .error e | .ok (s, a') => .ok (.mk 3 s Se.none [] 0 0, a') := by
  simp only [leafM, k1, k2, k3, Bool.false_eq_true, if_false, if_true]
  rfl

set_option maxRecDepth 100000 in
set_option maxHeartbeats 1000000 in
theorem leaf_any {T : List Tok} {bp bt cap a dep : Nat} {w : World} (h : Pz T bp bt cap a dep w) :
    Calls Try.prog 74 #[.pointer (some ⟨bp, 0, none⟩)] w (RePost T bp bt cap a dep w (leafM notNone T a)) := by
  have hbp := h.bp_lt
  have hbt := h.inb
  have hfew := h.few
  have h0 : Pz T bp bt cap a dep (w.alloc (.cells reZ 27)) := h.below ((Below.refl _ _).alloc (Nat.le_refl _) _)
  cases k2 : ((tokAt T a).kind == 2)
  · cases k3 : ((tokAt T a).kind == 3)
    · cases k1 : ((tokAt T a).kind == 1)
      · cases hd : isB (tokAt T a) [46]
        · have hm := hid (show leafM notNone T a = .error ((tokAt T a).pos, 4) by simp [leafM, k1, k2, k3, hd])
          go_enter Try.func74, Try.ntmps74
          go_wp2_with (first | (go_at_call 22; refine (tok_any h0).mono ?_; rintro e w1 ⟨rfl, hb⟩; simp only [Tok.cells]; have hc1 := (h0.below hb).c1; have hf1 := (h0.below hb).f1; have hl1 := (h0.below hb).bp_lt; have hz := h0.below (hb.alloc hb.size (.cells (tokAt T a).cells 63))) | (go_at_call 31; refine (need_no hz _ hd).mono ?_; rintro e w2 ⟨rfl, hb2⟩))
          exact ⟨rfl, RePost.mk_bad hm.out (((Kept.refl bp w).alloc _).trans ((Kept.of_below hb).alloc _ |>.trans (Kept.of_below hb2))) rfl⟩
        · have hm := hid (show leafM notNone T a = .ok (.mk 2 [] notNone [] 0 0, a + 1) by simp [leafM, k1, k2, k3, hd])
          go_enter Try.func74, Try.ntmps74
          go_wp2_with (first | (go_at_call 22; refine (tok_any h0).mono ?_; rintro e w1 ⟨rfl, hb⟩; simp only [Tok.cells]; have hc1 := (h0.below hb).c1; have hf1 := (h0.below hb).f1; have hl1 := (h0.below hb).bp_lt; have hz := h0.below (hb.alloc hb.size (.cells (tokAt T a).cells 63))) | (go_at_call 31; refine (need_yes hz _ hd).mono ?_; rintro e w2 ⟨rfl, hk2, hz2⟩) | (go_at_call 64; refine (not_any Se.none _).mono ?_; rintro e w3 ⟨rfl, hb3⟩) | (refine wpList_store_blk rfl 27 (.tmp 2) (.tmp 41) rfl 9 info27 w.heap.size 27 reZ ?hg rfl (reC 2 [] notNone (.slice none 0 0) 0 0) rfl rfl rfl rfl ?_))
          case hg => exact fin_blk (((Kept.of_below hb).alloc _).trans (hk2.trans (Kept.of_below hb3))) hbp
          refine bodyPost_ret (results_cell_row rfl _ _ w.heap.size 27 _ (0, 0) _ rfl (setRow_heap (fin_blk (((Kept.of_below hb).alloc _).trans (hk2.trans (Kept.of_below hb3))) hbp) _) Try.underlying27 rfl info27) rfl ?_
          exact fin_re hm.out (((Kept.of_below hb).alloc _).trans (hk2.trans (Kept.of_below hb3))) (hz2.below hb3) hbp hbt (Nat.lt_succ_self a) (ReIn.leaf _ _ _ _ _ _ _)
      · cases hr : reservedB (tokAt T a).text
        · have hm := hid (show leafM notNone T a = .ok (.mk 3 (tokAt T a).text Se.none [] 0 0, a + 1) by
            have hk : ((tokAt T a).kind != 1) = false := by simpa using k1
            rw [leafM_name k2 k3 k1]; simp only [nameM, hr, hk, Bool.false_eq_true, if_false])
          go_enter Try.func74, Try.ntmps74
          go_wp2_with (first | (go_at_call 22; refine (tok_any h0).mono ?_; rintro e w1 ⟨rfl, hb⟩; simp only [Tok.cells]; have hc1 := (h0.below hb).c1; have hf1 := (h0.below hb).f1; have hl1 := (h0.below hb).bp_lt; have hz := h0.below (hb.alloc hb.size (.cells (tokAt T a).cells 63))) | (go_at_call 47; refine (name_yes hz hr (by simpa using k1)).mono ?_; rintro e w2 ⟨rfl, hk2, hz2⟩) | (refine wpList_store_blk rfl 27 (.tmp 2) (.tmp 36) rfl 9 info27 w.heap.size 27 reZ ?hg rfl (reC 3 (tokAt T a).text Se.none (.slice none 0 0) 0 0) rfl rfl rfl rfl ?_))
          case hg => exact fin_blk (((Kept.of_below hb).alloc _).trans hk2) hbp
          refine bodyPost_ret (results_cell_row rfl _ _ w.heap.size 27 _ (0, 0) _ rfl (setRow_heap (fin_blk (((Kept.of_below hb).alloc _).trans hk2) hbp) _) Try.underlying27 rfl info27) rfl ?_
          exact fin_re hm.out (((Kept.of_below hb).alloc _).trans hk2) (hz2) hbp hbt (Nat.lt_succ_self a) (ReIn.leaf _ _ _ _ _ _ _)
        · have hm := hid (show leafM notNone T a = .error ((tokAt T a).pos, 4) by rw [leafM_name k2 k3 k1]; simp only [nameM, hr, if_true])
          go_enter Try.func74, Try.ntmps74
          go_wp2_with (first | (go_at_call 22; refine (tok_any h0).mono ?_; rintro e w1 ⟨rfl, hb⟩; simp only [Tok.cells]; have hc1 := (h0.below hb).c1; have hf1 := (h0.below hb).f1; have hl1 := (h0.below hb).bp_lt; have hz := h0.below (hb.alloc hb.size (.cells (tokAt T a).cells 63))) | (go_at_call 47; refine (name_no1 hz hr).mono ?_; rintro e w2 ⟨rfl, hb2⟩))
          exact ⟨rfl, RePost.mk_bad hm.out (((Kept.refl bp w).alloc _).trans ((Kept.of_below hb).alloc _ |>.trans (Kept.of_below hb2))) rfl⟩
    · have hm := hid (show leafM notNone T a = .ok (.mk 2 [] (tokAt T a).set [] 0 0, a + 1) by simp [leafM, k2, k3])
      have hlt := step_lt h (by have : (tokAt T a).kind = 3 := by simpa using k3
                                rw [this]; decide)
      go_enter Try.func74, Try.ntmps74
      go_wp2_with (first | (go_at_call 22; refine (tok_any h0).mono ?_; rintro e w1 ⟨rfl, hb⟩; simp only [Tok.cells]; have hc1 := (h0.below hb).c1; have hf1 := (h0.below hb).f1; have hl1 := (h0.below hb).bp_lt; have hz := h0.below (hb.alloc hb.size (.cells (tokAt T a).cells 63))) | (refine wpList_store_blk rfl 27 (.tmp 2) (.tmp 31) rfl 9 info27 w.heap.size 27 reZ ?hg rfl (reC 2 [] (tokAt T a).set (.slice none 0 0) 0 0) rfl rfl rfl rfl ?_))
      case hg => exact fin_blk (((Kept.of_below hb).set 1 _).alloc _) hbp
      refine bodyPost_ret (results_cell_row rfl _ _ w.heap.size 27 _ (0, 0) _ rfl (setRow_heap (fin_blk (((Kept.of_below hb).set 1 _).alloc _) hbp) _) Try.underlying27 rfl info27) rfl ?_
      exact fin_re hm.out (((Kept.of_below hb).set 1 _).alloc _) (((h0.below hb).setAt hlt).below ((Below.refl _ _).alloc (Nat.le_refl _) _)) hbp hbt (Nat.lt_succ_self a) (ReIn.leaf _ _ _ _ _ _ _)
  · have hm := hid (show leafM notNone T a = .ok (.mk 1 (tokAt T a).text Se.none [] 0 0, a + 1) by simp [leafM, k2])
    have hlt := step_lt h (by have : (tokAt T a).kind = 2 := by simpa using k2
                              rw [this]; decide)
    go_enter Try.func74, Try.ntmps74
    go_wp2_with (first | (go_at_call 22; refine (tok_any h0).mono ?_; rintro e w1 ⟨rfl, hb⟩; simp only [Tok.cells]; have hc1 := (h0.below hb).c1; have hf1 := (h0.below hb).f1; have hl1 := (h0.below hb).bp_lt; have hz := h0.below (hb.alloc hb.size (.cells (tokAt T a).cells 63))) | (refine wpList_store_blk rfl 27 (.tmp 2) (.tmp 19) rfl 9 info27 w.heap.size 27 reZ ?hg rfl (reC 1 (tokAt T a).text Se.none (.slice none 0 0) 0 0) rfl rfl rfl rfl ?_))
    case hg => exact fin_blk (((Kept.of_below hb).set 1 _).alloc _) hbp
    refine bodyPost_ret (results_cell_row rfl _ _ w.heap.size 27 _ (0, 0) _ rfl (setRow_heap (fin_blk (((Kept.of_below hb).set 1 _).alloc _) hbp) _) Try.underlying27 rfl info27) rfl ?_
    exact fin_re hm.out (((Kept.of_below hb).set 1 _).alloc _) (((h0.below hb).setAt hlt).below ((Below.refl _ _).alloc (Nat.le_refl _) _)) hbp hbt (Nat.lt_succ_self a) (ReIn.leaf _ _ _ _ _ _ _)
end Go.Proofs.Ytcedjjlflahpcaa
