/-
  The contracts of mapAtom and mapRep, out of those of their parts. (Printed by genB.py.)
-/
import Derived.Test.YtfljcfdfgojdoaaGreatDoorAa11
import Derived.Deep.AppendLies
namespace Go.Proofs.YtfljcfdfgojdoaaGreatDoor
open Go.RowKit Go.Lib

theorem re_cells {W : World} {g : Nat} {k : Int} {x : List B} {s : Se} {v : Value} {mn mx : Int} (h : W.heap[g]? = some (.cells (reC k x s v mn mx) 33 (0, 0))) :
    W.cell? ⟨g, 0, none⟩ = some (.int .i64 k) ∧ W.cell? ⟨g, 1, none⟩ = some (.string ⟨x.toArray⟩) ∧ W.cell? ⟨g, 2, none⟩ = some (.int .u64 s.a) ∧ W.cell? ⟨g, 3, none⟩ = some (.int .u64 s.b) ∧ W.cell? ⟨g, 4, none⟩ = some (.int .u64 s.c) ∧ W.cell? ⟨g, 5, none⟩ = some (.int .u64 s.d) ∧ W.cell? ⟨g, 6, none⟩ = some v ∧ W.cell? ⟨g, 7, none⟩ = some (.int .i64 mn) ∧ W.cell? ⟨g, 8, none⟩ = some (.int .i64 mx) :=
  ⟨cell_of_row _ _ 0 _ _ _ h, cell_of_row _ _ 1 _ _ _ h, cell_of_row _ _ 2 _ _ _ h, cell_of_row _ _ 3 _ _ _ h, cell_of_row _ _ 4 _ _ _ h, cell_of_row _ _ 5 _ _ _ h, cell_of_row _ _ 6 _ _ _ h, cell_of_row _ _ 7 _ _ _ h, cell_of_row _ _ 8 _ _ _ h⟩
/-- a store of a whole struct, as one step of a region that draws -/
theorem step_store_blk {P : Program} {ops : Array Oper} {o : Oper} {a : Act} {w : World} {K : Act → World → Prop} {Q : Exit → Act → World → Prop} {E : Prop} (hgd : o.guard = none) (ty : TypeId) (x y : Operand) (ho : o.op = .store ty x y)
    (n : Nat) (hi : (P.info? ty).map (·.size) = some n) (g : Nat) (t : TypeId) (old : Array Value) (hg : w.heap[g]? = some (.cells old t (0, 0))) (hold : old.size = n)
    (cells : Array Value) (hx : a.eval x = .pointer (some ⟨g, 0, none⟩)) (hy : a.eval y = .agg cells) (hn : cells.size = n) (h1 : cells.toList.all (·.oneCell') = true)
    (h : K (a.put o.dst undef) (w.setRow g cells)) : if Region.wanted o (yielded ops a.tmps) = true then Oper.wp P o a w K Q else E := by
  subst hn
  rw [if_pos (by simp [Region.wanted, hgd])]
  exact wp_store_row ty x y ho g cells hx hy t old hg hi hold (by rw [← Array.all_toList]; exact h1) h

set_option maxRecDepth 100000 in
set_option maxHeartbeats 2000000 in
theorem mapAtom_calls {T : List Tok} {D : Nat → Prop} {alt : Nat → Nat → RX Mp} (halt : ParsesX MpAt T 58 D alt) : ParsesX MpAt T 178 (fun d => D (d + 1)) (mAtomM alt T) := by
  intro bp bt cap a dep w hD h
  have hbp := h.bp_lt
  have hbt := h.inb
  have h0 : Pz T bp bt cap a dep (w.alloc (.cells mpZ 36)) := h.below ((Below.refl _ _).alloc (Nat.le_refl _) _)
  cases hi : isB (tokAt T a) [40]
  · have HI := hid hi
    rcases hx : leafM notNone T a with ⟨p, y⟩ | ⟨r, a1⟩
    · have hm := hid (show mAtomM alt T a dep = .error (p, y) by simp only [mAtomM, hi, hx, Bool.false_eq_true, if_false])
      have HX := hid hx
      clear hx hi
      go_enter Tryz.func178, Tryz.ntmps178
      go_wp2_with (first | (go_at_call 150; refine (is_any h0 _).mono ?_; rintro e w1 ⟨rfl, hb⟩; rw [HI.out]; have hz1 := h0.below hb) | (go_at_call 210; refine (leaf_any hz1).mono ?_; rintro e w2 hp; obtain ⟨hk2, rfl⟩ := hp.bad HX.out))
      exact ⟨rfl, XPost.mk_bad hm.out (((Kept.refl bp w).alloc _).trans ((Kept.of_below hb).trans hk2)) rfl⟩
    · have HX := hid hx
      cases hc : isB (tokAt T a1) [58]
      · have hm := hid (show mAtomM alt T a dep = .ok (.mk 1 r [] [] 0 0, a1) by simp only [mAtomM, hi, hx, hc, Bool.false_eq_true, if_false])
        clear hx hi
        go_enter Tryz.func178, Tryz.ntmps178
        go_wp2_with (first | (go_at_call 150; refine (is_any h0 _).mono ?_; rintro e w1 ⟨rfl, hb⟩; rw [HI.out]; have hz1 := h0.below hb) | (go_at_call 210; refine (leaf_any hz1).mono ?_; rintro e w2 hp; obtain ⟨hk2, hl2, hz2, cs, rfl, hr⟩ := hp.good HX.out; obtain ⟨kk, x, s, ad, n, cap2, mn, mx, rfl⟩ := hr.cells; have hz2' := hz2.below ((Below.refl _ _).alloc (Nat.le_refl _) (.cells (reC kk x s (.slice ad n cap2) mn mx) 33)); have hbq := hz2.bp_lt) | (go_at_call 118; refine (take_no hz2' _ hc).mono ?_; rintro e w3 ⟨rfl, hb3⟩) | (refine wpList_load_blk rfl 33 (.tmp 4) rfl 9 info27 _ Tryz.underlying33 rfl w2.heap.size rfl 33 (reC kk x s (.slice ad n cap2) mn mx) ?hl rfl ?_) | (refine wpList_store_blk rfl 36 (.tmp 2) (.tmp 22) rfl 14 info44 w.heap.size 36 mpZ ?hg rfl (mpC 1 kk x s (.slice ad n cap2) mn mx [] (.slice none 0 0) 0 0) rfl rfl rfl rfl ?_))
        case hl => exact fin_blk (Kept.of_below hb3) hbq
        case hg => exact fin_blk ((Kept.of_below hb).trans (hk2.trans (((Kept.refl bp w2).alloc _).trans (Kept.of_below hb3)))) hbp
        refine bodyPost_ret (results_cell_row rfl _ _ w.heap.size 36 _ (0, 0) _ rfl (setRow_heap (fin_blk ((Kept.of_below hb).trans (hk2.trans (((Kept.refl bp w2).alloc _).trans (Kept.of_below hb3)))) hbp) _) Tryz.underlying36 rfl info44) rfl ?_
        exact fin_mp hm.out ((Kept.of_below hb).trans (hk2.trans (((Kept.refl bp w2).alloc _).trans (Kept.of_below hb3)))) (hz2'.below hb3) hbp hbt hl2 (MpIn.leaf (hr.kept (((Kept.refl bp w2).alloc _).trans (Kept.of_below hb3)) (by have := hb.size; simp at this; omega) (by have := hb.size; simp at this; omega)) 1 [] 0 0)
      · cases hq : ((tokAt T (a1 + 1)).kind != 2)
        · have hm := hid (show mAtomM alt T a dep = .ok (.mk 2 r (tokAt T (a1 + 1)).text [] 0 0, a1 + 1 + 1) by simp only [mAtomM, hi, hx, hc, hq, Bool.false_eq_true, if_false, if_true])
          clear hx hi
          have q1 := field1
          go_enter Tryz.func178, Tryz.ntmps178
          go_upto_region 10 with (first | (go_at_call 150; refine (is_any h0 _).mono ?_; rintro e w1 ⟨rfl, hb⟩; rw [HI.out]; have hz1 := h0.below hb) | (go_at_call 210; refine (leaf_any hz1).mono ?_; rintro e w2 hp; obtain ⟨hk2, hl2, hz2, cs, rfl, hr⟩ := hp.good HX.out; obtain ⟨kk, x, s, ad, n, cap2, mn, mx, rfl⟩ := hr.cells; have hz2' := hz2.below ((Below.refl _ _).alloc (Nat.le_refl _) (.cells (reC kk x s (.slice ad n cap2) mn mx) 33)); have hbq := hz2.bp_lt) | (go_at_call 118; refine (take_yes hz2' _ hc).mono ?_; rintro e w3 ⟨rfl, hk3, hz3⟩; have HL3 := fin_blk hk3 hbq))
          refine Im.Till.start (S := fun W => W.heap[w2.heap.size]? = some (.cells (reC kk x s (.slice ad n cap2) mn mx) 33 (0, 0))) (n := 5) (by kernel_rfl) ?_
          refine Im.Till.take (i := 0) (v := .agg (reC kk x s (.slice ad n cap2) mn mx)) rfl (by kernel_rfl) (fun _ _ _ h => h) (Or.inl ⟨by rfl, fun W hS => by obtain ⟨c0, c1, c2, c3, c4, c5, c6, c7, c8⟩ := re_cells hS; go_simp⟩) HL3 ?_
          try simp only [Act.put, List.setIfInBounds_toArray]
          refine Im.Till.takePure (i := 1) (v := _) rfl (by kernel_rfl) (fun _ _ _ h => h) (Or.inl ⟨by rfl, fun w _ => by rfl⟩) (fun _ => HL3) ?_
          try simp only [Act.put]
          refine Im.Till.all (rs := [2]) (by kernel_rfl) (by simp) (Im.Each.cons rfl (fun K hK => ?_) Im.Each.nil)
          go_simp
          go_at_call 122
          refine (of_yes (hz3.below ((Below.refl _ _).drew)) _ (by decide) hq).mono ?_
          rintro e w4 ⟨rfl, hk4, hz4⟩
          simp only [Tok.cells]
          have hk34 : Kept bp w3 w4 := (Kept.of_below ((Below.refl _ _).drew)).trans hk4
          refine hK.out _ _ (fun _ => fin_blk (hk3.trans hk34) hbq) ?_
          clear hK K
          try simp only [Act.put, List.setIfInBounds_toArray, List.set_cons_zero, List.set_cons_succ]
          refine Im.Till.all (rs := [3]) (by kernel_rfl) (by simp) (Im.Each.cons rfl (fun K hK => ?_) Im.Each.nil)
          go_simp
          refine hK.out _ _ (fun _ => fin_blk (hk3.trans hk34) hbq) ?_
          clear hK K
          try simp only [Act.put, List.setIfInBounds_toArray, List.set_cons_zero, List.set_cons_succ]
          refine Im.Till.all (rs := [4]) (by kernel_rfl) (by simp) (Im.Each.cons rfl (fun K hK => ?_) Im.Each.nil)
          go_simp
          refine hK.out _ _ (fun _ => fin_blk (hk3.trans hk34) hbq) ?_
          clear hK K
          try simp only [Act.put, List.setIfInBounds_toArray, List.set_cons_zero, List.set_cons_succ]
          refine Im.Till.all (rs := [5]) (by kernel_rfl) (by simp) (Im.Each.cons rfl (fun K hK => ?_) Im.Each.nil)
          refine step_store_blk rfl 36 (.tmp 2) (.tmp 27) rfl 14 info44 w.heap.size 36 mpZ (fin_blk ((Kept.of_below hb).trans (hk2.trans (((Kept.refl bp w2).alloc _).trans (hk3.trans hk34)))) hbp) rfl (mpC 2 kk x s (.slice ad n cap2) mn mx (tokAt T (a1 + 1)).text (.slice none 0 0) 0 0) rfl rfl rfl rfl ?_
          refine hK.out _ _ (fun h => absurd h (by decide)) ?_
          clear hK K
          try simp only [Act.put, List.setIfInBounds_toArray]
          refine Im.Till.done (by kernel_rfl) ?_ _
          go_wp2_with fail
          refine bodyPost_ret (results_cell_row rfl _ _ w.heap.size 36 (mpC 2 kk x s (.slice ad n cap2) mn mx (tokAt T (a1 + 1)).text (.slice none 0 0) 0 0) (0, 0) _ rfl (setRow_heap (fin_blk ((Kept.of_below hb).trans (hk2.trans (((Kept.refl bp w2).alloc _).trans (hk3.trans hk34)))) hbp) _) Tryz.underlying36 rfl info44) rfl ?_
          exact fin_mp hm.out ((Kept.of_below hb).trans (hk2.trans (((Kept.refl bp w2).alloc _).trans (hk3.trans hk34)))) hz4 hbp hbt (by omega) (MpIn.leaf (hr.kept (((Kept.refl bp w2).alloc _).trans (hk3.trans hk34)) (by have := hb.size; simp at this; omega) (by have := hb.size; simp at this; omega)) 2 _ 0 0)
        · have hm := hid (show mAtomM alt T a dep = .error ((tokAt T (a1 + 1)).pos, 4) by simp only [mAtomM, hi, hx, hc, hq, Bool.false_eq_true, if_false, if_true])
          clear hx hi
          have q1 := field1
          go_enter Tryz.func178, Tryz.ntmps178
          go_upto_region 10 with (first | (go_at_call 150; refine (is_any h0 _).mono ?_; rintro e w1 ⟨rfl, hb⟩; rw [HI.out]; have hz1 := h0.below hb) | (go_at_call 210; refine (leaf_any hz1).mono ?_; rintro e w2 hp; obtain ⟨hk2, hl2, hz2, cs, rfl, hr⟩ := hp.good HX.out; obtain ⟨kk, x, s, ad, n, cap2, mn, mx, rfl⟩ := hr.cells; have hz2' := hz2.below ((Below.refl _ _).alloc (Nat.le_refl _) (.cells (reC kk x s (.slice ad n cap2) mn mx) 33)); have hbq := hz2.bp_lt) | (go_at_call 118; refine (take_yes hz2' _ hc).mono ?_; rintro e w3 ⟨rfl, hk3, hz3⟩; have HL3 := fin_blk hk3 hbq))
          refine Im.Till.start (S := fun W => W.heap[w2.heap.size]? = some (.cells (reC kk x s (.slice ad n cap2) mn mx) 33 (0, 0))) (n := 5) (by kernel_rfl) ?_
          refine Im.Till.take (i := 0) (v := .agg (reC kk x s (.slice ad n cap2) mn mx)) rfl (by kernel_rfl) (fun _ _ _ h => h) (Or.inl ⟨by rfl, fun W hS => by obtain ⟨c0, c1, c2, c3, c4, c5, c6, c7, c8⟩ := re_cells hS; go_simp⟩) HL3 ?_
          try simp only [Act.put, List.setIfInBounds_toArray]
          refine Im.Till.takePure (i := 1) (v := _) rfl (by kernel_rfl) (fun _ _ _ h => h) (Or.inl ⟨by rfl, fun w _ => by rfl⟩) (fun _ => HL3) ?_
          try simp only [Act.put]
          refine Im.Till.all (rs := [2]) (by kernel_rfl) (by simp) (Im.Each.cons rfl (fun K hK => ?_) Im.Each.nil)
          go_simp
          go_at_call 122
          refine (of_no (hz3.below ((Below.refl _ _).drew)) _ hq).mono ?_
          rintro e w4 ⟨rfl, hb4⟩
          exact ⟨rfl, XPost.mk_bad hm.out (((Kept.refl bp w).alloc _).trans ((Kept.of_below hb).trans (hk2.trans (((Kept.refl bp w2).alloc _).trans (hk3.trans ((Kept.of_below ((Below.refl _ _).drew)).trans (Kept.of_below hb4))))))) rfl⟩
  · have HI := hid hi
    by_cases hd : dep = 32
    · subst hd
      have hm := hid (show mAtomM alt T a 32 = .error ((tokAt T a).pos, 8) by simp only [mAtomM, hi, if_true])
      clear hi
      go_enter Tryz.func178, Tryz.ntmps178
      go_wp2_with (first | (go_at_call 150; refine (is_any h0 _).mono ?_; rintro e w1 ⟨rfl, hb⟩; rw [HI.out]; have hz1 := h0.below hb) | (go_at_call 208; refine (enter_no hz1).mono ?_; rintro e w2 ⟨rfl, hb2⟩))
      exact ⟨rfl, XPost.mk_bad hm.out (((Kept.refl bp w).alloc _).trans ((Kept.of_below hb).trans (Kept.of_below hb2))) rfl⟩
    · have hkd := isB_kind hi
      rcases hx : alt (a + 1) (dep + 1) with ⟨p, y⟩ | ⟨r, a1⟩
      · have hm := hid (show mAtomM alt T a dep = .error (p, y) by simp only [mAtomM, hi, hd, hx, if_false, if_true])
        have HX := hid hx
        clear hx hi
        go_enter Tryz.func178, Tryz.ntmps178
        go_wp2_with (first | (go_at_call 150; refine (is_any h0 _).mono ?_; rintro e w1 ⟨rfl, hb⟩; rw [HI.out]; have hz1 := h0.below hb) | (go_at_call 208; refine (enter_yes hz1 hkd hd).mono ?_; rintro e w2 ⟨rfl, hk2, hz2⟩) | (go_at_call 58; refine (halt bp bt cap _ _ _ hD hz2).mono ?_; rintro e w3 hp; obtain ⟨hk3, rfl⟩ := hp.bad HX.out))
        exact ⟨rfl, XPost.mk_bad hm.out (((Kept.refl bp w).alloc _).trans ((Kept.of_below hb).trans (hk2.trans hk3))) rfl⟩
      · cases hc : isB (tokAt T a1) [41]
        · have hm := hid (show mAtomM alt T a dep = .error ((tokAt T a1).pos, 4) by simp only [mAtomM, hi, hd, hx, hc, Bool.false_eq_true, if_false, if_true])
          have HX := hid hx
          clear hx hi
          go_enter Tryz.func178, Tryz.ntmps178
          go_wp2_with (first | (go_at_call 150; refine (is_any h0 _).mono ?_; rintro e w1 ⟨rfl, hb⟩; rw [HI.out]; have hz1 := h0.below hb) | (go_at_call 208; refine (enter_yes hz1 hkd hd).mono ?_; rintro e w2 ⟨rfl, hk2, hz2⟩) | (go_at_call 58; refine (halt bp bt cap _ _ _ hD hz2).mono ?_; rintro e w3 hp; obtain ⟨hk3, hl3, hz3, cs, rfl, hr⟩ := hp.good HX.out; obtain ⟨mk, rk, rx, rs, ra, rl, rc, rn, rm, mo, ad, n, cap2, mn, mx, rfl⟩ := hr.cells; have hz3' := hz3.below ((Below.refl _ _).alloc (Nat.le_refl _) (.cells (mpC mk rk rx rs (.slice ra rl rc) rn rm mo (.slice ad n cap2) mn mx) 36)); have hbq := hz3.bp_lt) | (go_at_call 123; refine (need_no hz3' _ hc).mono ?_; rintro e w4 ⟨rfl, hb4⟩))
          exact ⟨rfl, XPost.mk_bad hm.out (((Kept.refl bp w).alloc _).trans ((Kept.of_below hb).trans (hk2.trans (hk3.trans (((Kept.refl bp w3).alloc _).trans (Kept.of_below hb4)))))) rfl⟩
        · have hm := hid (show mAtomM alt T a dep = .ok (r, a1 + 1) by simp only [mAtomM, hi, hd, hx, hc, if_false, if_true])
          have HX := hid hx
          clear hx hi
          go_enter Tryz.func178, Tryz.ntmps178
          go_wp2_with (first | (go_at_call 150; refine (is_any h0 _).mono ?_; rintro e w1 ⟨rfl, hb⟩; rw [HI.out]; have hz1 := h0.below hb) | (go_at_call 208; refine (enter_yes hz1 hkd hd).mono ?_; rintro e w2 ⟨rfl, hk2, hz2⟩) | (go_at_call 58; refine (halt bp bt cap _ _ _ hD hz2).mono ?_; rintro e w3 hp; obtain ⟨hk3, hl3, hz3, cs, rfl, hr⟩ := hp.good HX.out; obtain ⟨mk, rk, rx, rs, ra, rl, rc, rn, rm, mo, ad, n, cap2, mn, mx, rfl⟩ := hr.cells; have hz3' := hz3.below ((Below.refl _ _).alloc (Nat.le_refl _) (.cells (mpC mk rk rx rs (.slice ra rl rc) rn rm mo (.slice ad n cap2) mn mx) 36)); have hbq := hz3.bp_lt) | (go_at_call 123; refine (need_yes hz3' _ hc).mono ?_; rintro e w4 ⟨rfl, hk4, hz4⟩) | (go_at_call 209; refine (leave_any hz4).mono ?_; rintro e w5 ⟨rfl, hk5, hz5⟩) | (refine wpList_load_blk rfl 36 (.tmp 3) rfl 14 info44 _ Tryz.underlying36 rfl w3.heap.size rfl 36 (mpC mk rk rx rs (.slice ra rl rc) rn rm mo (.slice ad n cap2) mn mx) ?hl rfl ?_) | (refine wpList_store_blk rfl 36 (.tmp 2) (.tmp 15) rfl 14 info44 w.heap.size 36 mpZ ?hg rfl (mpC mk rk rx rs (.slice ra rl rc) rn rm mo (.slice ad n cap2) mn mx) rfl rfl rfl rfl ?_))
          case hl => exact fin_blk (hk4.trans hk5) hbq
          case hg => exact fin_blk ((Kept.of_below hb).trans (hk2.trans (hk3.trans (((Kept.refl bp w3).alloc _).trans (hk4.trans hk5))))) hbp
          refine bodyPost_ret (results_cell_row rfl _ _ w.heap.size 36 _ (0, 0) _ rfl (setRow_heap (fin_blk ((Kept.of_below hb).trans (hk2.trans (hk3.trans (((Kept.refl bp w3).alloc _).trans (hk4.trans hk5))))) hbp) _) Tryz.underlying36 rfl info44) rfl ?_
          exact fin_mp hm.out ((Kept.of_below hb).trans (hk2.trans (hk3.trans (((Kept.refl bp w3).alloc _).trans (hk4.trans hk5))))) (hz5) hbp hbt (by omega) (hr.kept (((Kept.refl bp w3).alloc _).trans (hk4.trans hk5)) (by have := hz2.bp_lt; omega) (by have := hb.size; have := hk2.size; simp at *; omega))
end Go.Proofs.YtfljcfdfgojdoaaGreatDoor
