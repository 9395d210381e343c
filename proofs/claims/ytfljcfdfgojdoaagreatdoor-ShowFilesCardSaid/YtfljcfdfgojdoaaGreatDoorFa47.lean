/-
  rightItem as it is. (Printed by genRi.py.)
-/
import Derived.Test.YtfljcfdfgojdoaaGreatDoorFa25
import Derived.Deep.DeepCutAuto
import Derived.Deep.CutBlock
import Derived.Deep.RegionWith
namespace Go.Proofs.YtfljcfdfgojdoaaGreatDoor.Sh
open Go.RowKit Go.Lib Go.Proofs.YtfljcfdfgojdoaaGreatDoor

/-- what stands behind the switch -/
structure ItMid (w : World) (y : Iw) (x : It) (v : Value) (wx : World) : Prop where
  v : v = .bool (okI x)
  rest : wx.heap[w.heap.size + 1]? = some (.cells (restI y).cs 65 (0, 0))
  low : Below w.heap.size w wx
theorem str_same (x : List B) (h : x = []) : (⟨x.toArray⟩ : ByteArray) = ⟨#[]⟩ := by rw [h]
theorem setI_nm {w : World} {g : Nat} {y : Iw} (h : w.heap[g]? = some (.cells y.cs 65 (0, 0))) : (w.setCell ⟨g, 1, none⟩ (.string ⟨#[]⟩)).heap[g]? = some (.cells (Iw.cs ⟨y.k, [], y.r, y.m, y.o, y.b, y.ar, y.l, y.q⟩) 65 (0, 0)) := heap_setCell_same w g 1 _ 65 _ h
theorem setI_o {w : World} {g : Nat} {y : Iw} (h : w.heap[g]? = some (.cells y.cs 65 (0, 0))) : (w.setCell ⟨g, 25, none⟩ (.string ⟨#[]⟩)).heap[g]? = some (.cells (Iw.cs ⟨y.k, y.nm, y.r, y.m, [], y.b, y.ar, y.l, y.q⟩) 65 (0, 0)) := heap_setCell_same w g 25 _ 65 _ h
theorem setI_b {w : World} {g : Nat} {y : Iw} (h : w.heap[g]? = some (.cells y.cs 65 (0, 0))) : (w.setCell ⟨g, 26, none⟩ (.string ⟨#[]⟩)).heap[g]? = some (.cells (Iw.cs ⟨y.k, y.nm, y.r, y.m, y.o, [], y.ar, y.l, y.q⟩) 65 (0, 0)) := heap_setCell_same w g 26 _ 65 _ h
theorem setI_ar {w : World} {g : Nat} {y : Iw} (h : w.heap[g]? = some (.cells y.cs 65 (0, 0))) : (w.setCell ⟨g, 27, none⟩ (.bool false)).heap[g]? = some (.cells (Iw.cs ⟨y.k, y.nm, y.r, y.m, y.o, y.b, false, y.l, y.q⟩) 65 (0, 0)) := heap_setCell_same w g 27 _ 65 _ h
theorem hold_nm {w : World} {g : Nat} {y : Iw} (h : w.heap[g]? = some (.cells y.cs 65 (0, 0))) : w.cell? ⟨g, 1, none⟩ = some (.string ⟨y.nm.toArray⟩) ∧ w.frozen? ⟨g, 1, none⟩ = false := ⟨cell_of_row _ _ 1 _ _ _ h, frozen_of_row _ _ 1 _ _ h⟩
theorem put_r0 (y : Iw) : Go.Proofs.YtfljcfdfgojdoaaGreatDoor.putAt y.cs 2 reZ.toList = Iw.cs ⟨y.k, y.nm, Rw.zero, y.m, y.o, y.b, y.ar, y.l, y.q⟩ := by kernel_rfl
theorem put_m0 (y : Iw) : Go.Proofs.YtfljcfdfgojdoaaGreatDoor.putAt y.cs 11 mpZ.toList = Iw.cs ⟨y.k, y.nm, y.r, Mw.zero, y.o, y.b, y.ar, y.l, y.q⟩ := by kernel_rfl
theorem put_l0 (y : Iw) : Go.Proofs.YtfljcfdfgojdoaaGreatDoor.putAt y.cs 28 reZ.toList = Iw.cs ⟨y.k, y.nm, y.r, y.m, y.o, y.b, y.ar, Rw.zero, y.q⟩ := by kernel_rfl
theorem put_q0 (y : Iw) : Go.Proofs.YtfljcfdfgojdoaaGreatDoor.putAt y.cs 37 reZ.toList = Iw.cs ⟨y.k, y.nm, y.r, y.m, y.o, y.b, y.ar, y.l, Rw.zero⟩ := by kernel_rfl
set_option maxRecDepth 100000 in
set_option maxHeartbeats 16000000 in
theorem rightItem_any {F : Nat → Prop} {x : It} {y : Iw} {w : World} (hFw : ∀ g, F g → g < w.heap.size) (hy : ItG F w x y) (htr : TxRe x.re) (htl : TxRe x.left) (htq : TxRe x.right) (htm : TxMp x.map) (hn : x.name.length ≤ 140737488351232) (hb : x.by_.length ≤ 140737488351232) :
    Calls Tryz.prog 39 #[.agg y.cs] w fun e w' => e = .returned (.bool (itB x y)) ∧ Below w.heap.size w w' := by
  have HY := hid (And.intro hFw hy)
  have HT := hid (And.intro htr (And.intro htl (And.intro htq (And.intro htm (And.intro hn hb)))))
  have HFT := hid hy.fit
  have hblk : ((w.alloc (.cells y.cs 65)).alloc (.cells y.cs 65)).heap[w.heap.size]? = some (.cells y.cs 65 (0, 0)) := heap_alloc2_old _ _ _
  have hrst : ((w.alloc (.cells y.cs 65)).alloc (.cells y.cs 65)).heap[w.heap.size + 1]? = some (.cells y.cs 65 (0, 0)) := heap_alloc2_new _ _ _
  have HB := hid (show Below w.heap.size w ((w.alloc (.cells y.cs 65)).alloc (.cells y.cs 65)) from ((Below.refl _ w).alloc (Nat.le_refl _) _).alloc (by simp) _)
  have HSZ := hid (show ((w.alloc (.cells y.cs 65)).alloc (.cells y.cs 65)).heap.size = w.heap.size + 2 by simp)
  have HBK := hid hblk
  have HRS := hid hrst
  obtain ⟨c0, _⟩ := it_heads hblk
  clear hblk hrst hFw hy htr htl htq htm hn hb
  go_enter Tryz.func39, Tryz.ntmps39
  go_upto_block 0 with (first | (refine wpList_load_blk rfl 65 (.tmp 1) rfl 46 info46 _ Tryz.underlying65 rfl w.heap.size rfl 65 y.cs (heap_alloc_new _ _) rfl ?_) | (refine wpList_store_newN rfl 65 (.tmp 3) (.tmp 5) rfl 46 info46 65 itZ rfl y.cs (w.heap.size + 1) (by simp) rfl rfl (itC_size _ _ _ _ _ _ _ _ _) (itC_one _ _ _ _ _ _ _ _ _) ?_))
  generalize (w.alloc (.cells y.cs 65)).alloc (.cells y.cs 65) = W2 at *
  go_cut [4] (fun v wx => ItMid w y x v wx)
  case first =>
    have HNM := hid (show ∀ W, Below w.heap.size w W → Calls Tryz.prog 82 #[.string ⟨y.nm.toArray⟩] W fun e w' => e = .returned (.bool (nameOk x.name)) ∧ Below W.heap.size W w' from fun W _ => by rw [HY.out.2.nm]; exact mayNameS_any _ W HT.out.2.2.2.2.1)
    have HNB := hid (show ∀ W, Below w.heap.size w W → Calls Tryz.prog 82 #[.string ⟨y.b.toArray⟩] W fun e w' => e = .returned (.bool (nameOk x.by_)) ∧ Below W.heap.size W w' from fun W _ => by rw [HY.out.2.b]; exact mayNameS_any _ W HT.out.2.2.2.2.2)
    have HRE := hid (show ∀ W, Below w.heap.size w W → Calls Tryz.prog 83 #[.agg y.r.cs] W fun e w' => e = .returned (.bool (okB x.re)) ∧ Below W.heap.size W w' from fun W hW => rightRe_any (fun g hg => Nat.lt_of_lt_of_le (HY.out.1 g hg) hW.size) (HY.out.2.r.below HY.out.1 hW) HT.out.1)
    have HRL := hid (show ∀ W, Below w.heap.size w W → Calls Tryz.prog 83 #[.agg y.l.cs] W fun e w' => e = .returned (.bool (okB x.left)) ∧ Below W.heap.size W w' from fun W hW => rightRe_any (fun g hg => Nat.lt_of_lt_of_le (HY.out.1 g hg) hW.size) (HY.out.2.l.below HY.out.1 hW) HT.out.2.1)
    have HRQ := hid (show ∀ W, Below w.heap.size w W → Calls Tryz.prog 83 #[.agg y.q.cs] W fun e w' => e = .returned (.bool (okB x.right)) ∧ Below W.heap.size W w' from fun W hW => rightRe_any (fun g hg => Nat.lt_of_lt_of_le (HY.out.1 g hg) hW.size) (HY.out.2.q.below HY.out.1 hW) HT.out.2.2.1)
    have HMP := hid (show ∀ W, Below w.heap.size w W → Calls Tryz.prog 55 #[.agg y.m.cs, .int .i64 200] W fun e w' => e = .returned (.bool (mrightB 200 x.map)) ∧ Below W.heap.size W w' from fun W hW => rightMap_any 200 x.map (by omega) HT.out.2.2.2.1 F y.m W (fun g hg => Nat.lt_of_lt_of_le (HY.out.1 g hg) hW.size) (HY.out.2.m.below HY.out.1 hW))
    by_cases hk1 : y.k = 1
    · have hk := hk1
      clear hk1
      have q1 : (y.k == 1) = true := by rw [hk]; rfl
      have q2 : (y.k == 2) = false := by rw [hk]; rfl
      have q3 : (y.k == 3) = false := by rw [hk]; rfl
      have q4 : (y.k == 4) = false := by rw [hk]; rfl
      have hxk : x.kind = 1 := by rw [← HY.out.2.k]; exact hk
      have HOK := hid ((fun (h : x.kind = 1) => okI_14 (x := x) (by omega)) hxk)
      have HRI := hid (restI_14 (y := y) (by omega))
      clear hk hxk
      obtain ⟨g1, z1⟩ := hold_nm HRS.out
      have HR1 := hid (setI_nm HRS.out)
      have HR3 := hid (Go.Proofs.YtfljcfdfgojdoaaGreatDoor.setRow_heap HR1.out (Iw.cs ⟨y.k, [], Rw.zero, y.m, y.o, y.b, y.ar, y.l, y.q⟩))
      have HX3 := hid ((Go.Proofs.YtfljcfdfgojdoaaGreatDoor.setRow_other (w := W2.setCell ⟨w.heap.size + 1, 1, none⟩ (.string ⟨#[]⟩)) (Iw.cs ⟨y.k, [], Rw.zero, y.m, y.o, y.b, y.ar, y.l, y.q⟩) (show w.heap.size ≠ w.heap.size + 1 by omega)).trans ((box_other (w := W2) (P := w.heap.size + 1) (i := 1) (.string ⟨#[]⟩) (by omega)).trans HBK.out))
      have HL3 := hid (setRow_below (below_set HB.out (show w.heap.size ≤ w.heap.size + 1 by omega) 1 (.string ⟨#[]⟩)) (show w.heap.size ≤ w.heap.size + 1 by omega) (Iw.cs ⟨y.k, [], Rw.zero, y.m, y.o, y.b, y.ar, y.l, y.q⟩))
      go_upto_region 7 with (refine Go.Proofs.YtfljcfdfgojdoaaGreatDoor.wpList_store_at rfl 33 (.tmp 13) (.tmp 11) rfl 9 info27 (w.heap.size + 1) 65 (Iw.cs ⟨y.k, [], y.r, y.m, y.o, y.b, y.ar, y.l, y.q⟩) HR1.out 2 (by rw [itC_size]; decide) reZ rfl rfl rfl rfl (Iw.cs ⟨y.k, [], Rw.zero, y.m, y.o, y.b, y.ar, y.l, y.q⟩) (put_r0 ⟨y.k, [], y.r, y.m, y.o, y.b, y.ar, y.l, y.q⟩) ?_)
      generalize (W2.setCell ⟨w.heap.size + 1, 1, none⟩ (.string ⟨#[]⟩)).setRow (w.heap.size + 1) (Iw.cs ⟨y.k, [], Rw.zero, y.m, y.o, y.b, y.ar, y.l, y.q⟩) = W3 at *
      clear g1 z1 c0 HR1
      obtain ⟨_, k1, k25, k26, k27⟩ := it_heads HX3.out
      rcases Bool.eq_false_or_eq_true (nameOk x.name) with hn | hn
      · rcases Bool.eq_false_or_eq_true (okB x.re) with ho | ho
        · have HV := hid (show okI x = true by rw [HOK.out, hn, ho]; rfl)
          have HNC := HNM.out
          rw [hn] at HNC
          have HND := hid HNC
          clear HNC
          have HOC := HRE.out
          rw [ho] at HOC
          have HOD := hid HOC
          clear HOC
          clear hn ho
          have tok1 : True := trivial
          have tok2 : True := trivial
          go_wp2_with (first | (have _t := tok1; go_at_call 82; refine (HND.out W3 HL3.out).mono ?_; rintro e W4 ⟨rfl, hb4⟩; have HL4 := hid (HL3.out.trans (hb4.mono HL3.out.size)); have HR4 := hid ((hb4.block (w.heap.size + 1) (lt_of_heap HR3.out)).trans HR3.out); have HX4 := hid ((hb4.block w.heap.size (lt_of_heap HX3.out)).trans HX3.out); clear hb4 k1 k25 k26 k27 _t tok1; obtain ⟨_, k1, k25, k26, k27⟩ := it_heads HX4.out) | (with_reducible (show wpList _ _ _ (⟨some 19, Op.load 33 (Operand.tmp 18), _, _, _, _⟩ :: _) _ _); refine wpList_load_part 33 (.tmp 18) rfl (by kernel_rfl) w.heap.size 2 rfl y.r.cs _ (it_ranges HX4.out).1 Tryz.underlying33 rfl 9 info27 rfl ?_) | (have _t := tok2; go_at_call 83; refine (HOD.out W4 HL4.out).mono ?_; rintro e W5 ⟨rfl, hb5⟩; have HL5 := hid (HL4.out.trans (hb5.mono HL4.out.size)); have HR5 := hid ((hb5.block (w.heap.size + 1) (lt_of_heap HR4.out)).trans HR4.out); have HX5 := hid ((hb5.block w.heap.size (lt_of_heap HX4.out)).trans HX4.out); clear hb5 k1 k25 k26 k27 _t tok2; obtain ⟨_, k1, k25, k26, k27⟩ := it_heads HX5.out))
          go_meet
          case rel => exact ⟨by rw [HV.out], by rw [HRI.out]; exact HR5.out, HL5.out⟩
        · have HV := hid (show okI x = false by rw [HOK.out, hn, ho]; rfl)
          have HNC := HNM.out
          rw [hn] at HNC
          have HND := hid HNC
          clear HNC
          have HOC := HRE.out
          rw [ho] at HOC
          have HOD := hid HOC
          clear HOC
          clear hn ho
          have tok1 : True := trivial
          have tok2 : True := trivial
          go_wp2_with (first | (have _t := tok1; go_at_call 82; refine (HND.out W3 HL3.out).mono ?_; rintro e W4 ⟨rfl, hb4⟩; have HL4 := hid (HL3.out.trans (hb4.mono HL3.out.size)); have HR4 := hid ((hb4.block (w.heap.size + 1) (lt_of_heap HR3.out)).trans HR3.out); have HX4 := hid ((hb4.block w.heap.size (lt_of_heap HX3.out)).trans HX3.out); clear hb4 k1 k25 k26 k27 _t tok1; obtain ⟨_, k1, k25, k26, k27⟩ := it_heads HX4.out) | (with_reducible (show wpList _ _ _ (⟨some 19, Op.load 33 (Operand.tmp 18), _, _, _, _⟩ :: _) _ _); refine wpList_load_part 33 (.tmp 18) rfl (by kernel_rfl) w.heap.size 2 rfl y.r.cs _ (it_ranges HX4.out).1 Tryz.underlying33 rfl 9 info27 rfl ?_) | (have _t := tok2; go_at_call 83; refine (HOD.out W4 HL4.out).mono ?_; rintro e W5 ⟨rfl, hb5⟩; have HL5 := hid (HL4.out.trans (hb5.mono HL4.out.size)); have HR5 := hid ((hb5.block (w.heap.size + 1) (lt_of_heap HR4.out)).trans HR4.out); have HX5 := hid ((hb5.block w.heap.size (lt_of_heap HX4.out)).trans HX4.out); clear hb5 k1 k25 k26 k27 _t tok2; obtain ⟨_, k1, k25, k26, k27⟩ := it_heads HX5.out))
          go_meet
          case rel => exact ⟨by rw [HV.out], by rw [HRI.out]; exact HR5.out, HL5.out⟩
      · have HV := hid (show okI x = false by rw [HOK.out, hn]; simp)
        have HNC := HNM.out
        rw [hn] at HNC
        have HND := hid HNC
        clear HNC
        clear hn
        have tok1 : True := trivial
        go_wp2_with (first | (have _t := tok1; go_at_call 82; refine (HND.out W3 HL3.out).mono ?_; rintro e W4 ⟨rfl, hb4⟩; have HL4 := hid (HL3.out.trans (hb4.mono HL3.out.size)); have HR4 := hid ((hb4.block (w.heap.size + 1) (lt_of_heap HR3.out)).trans HR3.out); have HX4 := hid ((hb4.block w.heap.size (lt_of_heap HX3.out)).trans HX3.out); clear hb4 k1 k25 k26 k27 _t tok1; obtain ⟨_, k1, k25, k26, k27⟩ := it_heads HX4.out))
        go_meet
        case rel => exact ⟨by rw [HV.out], by rw [HRI.out]; exact HR4.out, HL4.out⟩
    by_cases hk4 : y.k = 4
    · have hk := hk4
      clear hk4
      have q1 : (y.k == 1) = false := by rw [hk]; rfl
      have q2 : (y.k == 2) = false := by rw [hk]; rfl
      have q3 : (y.k == 3) = false := by rw [hk]; rfl
      have q4 : (y.k == 4) = true := by rw [hk]; rfl
      have hxk : x.kind = 4 := by rw [← HY.out.2.k]; exact hk
      have HOK := hid ((fun (h : x.kind = 4) => okI_14 (x := x) (by omega)) hxk)
      have HRI := hid (restI_14 (y := y) (by omega))
      clear hk hxk
      obtain ⟨g1, z1⟩ := hold_nm HRS.out
      have HR1 := hid (setI_nm HRS.out)
      have HR3 := hid (Go.Proofs.YtfljcfdfgojdoaaGreatDoor.setRow_heap HR1.out (Iw.cs ⟨y.k, [], Rw.zero, y.m, y.o, y.b, y.ar, y.l, y.q⟩))
      have HX3 := hid ((Go.Proofs.YtfljcfdfgojdoaaGreatDoor.setRow_other (w := W2.setCell ⟨w.heap.size + 1, 1, none⟩ (.string ⟨#[]⟩)) (Iw.cs ⟨y.k, [], Rw.zero, y.m, y.o, y.b, y.ar, y.l, y.q⟩) (show w.heap.size ≠ w.heap.size + 1 by omega)).trans ((box_other (w := W2) (P := w.heap.size + 1) (i := 1) (.string ⟨#[]⟩) (by omega)).trans HBK.out))
      have HL3 := hid (setRow_below (below_set HB.out (show w.heap.size ≤ w.heap.size + 1 by omega) 1 (.string ⟨#[]⟩)) (show w.heap.size ≤ w.heap.size + 1 by omega) (Iw.cs ⟨y.k, [], Rw.zero, y.m, y.o, y.b, y.ar, y.l, y.q⟩))
      go_upto_region 7 with (refine Go.Proofs.YtfljcfdfgojdoaaGreatDoor.wpList_store_at rfl 33 (.tmp 13) (.tmp 11) rfl 9 info27 (w.heap.size + 1) 65 (Iw.cs ⟨y.k, [], y.r, y.m, y.o, y.b, y.ar, y.l, y.q⟩) HR1.out 2 (by rw [itC_size]; decide) reZ rfl rfl rfl rfl (Iw.cs ⟨y.k, [], Rw.zero, y.m, y.o, y.b, y.ar, y.l, y.q⟩) (put_r0 ⟨y.k, [], y.r, y.m, y.o, y.b, y.ar, y.l, y.q⟩) ?_)
      generalize (W2.setCell ⟨w.heap.size + 1, 1, none⟩ (.string ⟨#[]⟩)).setRow (w.heap.size + 1) (Iw.cs ⟨y.k, [], Rw.zero, y.m, y.o, y.b, y.ar, y.l, y.q⟩) = W3 at *
      clear g1 z1 c0 HR1
      obtain ⟨_, k1, k25, k26, k27⟩ := it_heads HX3.out
      rcases Bool.eq_false_or_eq_true (nameOk x.name) with hn | hn
      · rcases Bool.eq_false_or_eq_true (okB x.re) with ho | ho
        · have HV := hid (show okI x = true by rw [HOK.out, hn, ho]; rfl)
          have HNC := HNM.out
          rw [hn] at HNC
          have HND := hid HNC
          clear HNC
          have HOC := HRE.out
          rw [ho] at HOC
          have HOD := hid HOC
          clear HOC
          clear hn ho
          have tok1 : True := trivial
          have tok2 : True := trivial
          go_wp2_with (first | (have _t := tok1; go_at_call 82; refine (HND.out W3 HL3.out).mono ?_; rintro e W4 ⟨rfl, hb4⟩; have HL4 := hid (HL3.out.trans (hb4.mono HL3.out.size)); have HR4 := hid ((hb4.block (w.heap.size + 1) (lt_of_heap HR3.out)).trans HR3.out); have HX4 := hid ((hb4.block w.heap.size (lt_of_heap HX3.out)).trans HX3.out); clear hb4 k1 k25 k26 k27 _t tok1; obtain ⟨_, k1, k25, k26, k27⟩ := it_heads HX4.out) | (with_reducible (show wpList _ _ _ (⟨some 19, Op.load 33 (Operand.tmp 18), _, _, _, _⟩ :: _) _ _); refine wpList_load_part 33 (.tmp 18) rfl (by kernel_rfl) w.heap.size 2 rfl y.r.cs _ (it_ranges HX4.out).1 Tryz.underlying33 rfl 9 info27 rfl ?_) | (have _t := tok2; go_at_call 83; refine (HOD.out W4 HL4.out).mono ?_; rintro e W5 ⟨rfl, hb5⟩; have HL5 := hid (HL4.out.trans (hb5.mono HL4.out.size)); have HR5 := hid ((hb5.block (w.heap.size + 1) (lt_of_heap HR4.out)).trans HR4.out); have HX5 := hid ((hb5.block w.heap.size (lt_of_heap HX4.out)).trans HX4.out); clear hb5 k1 k25 k26 k27 _t tok2; obtain ⟨_, k1, k25, k26, k27⟩ := it_heads HX5.out))
          go_meet
          case rel => exact ⟨by rw [HV.out], by rw [HRI.out]; exact HR5.out, HL5.out⟩
        · have HV := hid (show okI x = false by rw [HOK.out, hn, ho]; rfl)
          have HNC := HNM.out
          rw [hn] at HNC
          have HND := hid HNC
          clear HNC
          have HOC := HRE.out
          rw [ho] at HOC
          have HOD := hid HOC
          clear HOC
          clear hn ho
          have tok1 : True := trivial
          have tok2 : True := trivial
          go_wp2_with (first | (have _t := tok1; go_at_call 82; refine (HND.out W3 HL3.out).mono ?_; rintro e W4 ⟨rfl, hb4⟩; have HL4 := hid (HL3.out.trans (hb4.mono HL3.out.size)); have HR4 := hid ((hb4.block (w.heap.size + 1) (lt_of_heap HR3.out)).trans HR3.out); have HX4 := hid ((hb4.block w.heap.size (lt_of_heap HX3.out)).trans HX3.out); clear hb4 k1 k25 k26 k27 _t tok1; obtain ⟨_, k1, k25, k26, k27⟩ := it_heads HX4.out) | (with_reducible (show wpList _ _ _ (⟨some 19, Op.load 33 (Operand.tmp 18), _, _, _, _⟩ :: _) _ _); refine wpList_load_part 33 (.tmp 18) rfl (by kernel_rfl) w.heap.size 2 rfl y.r.cs _ (it_ranges HX4.out).1 Tryz.underlying33 rfl 9 info27 rfl ?_) | (have _t := tok2; go_at_call 83; refine (HOD.out W4 HL4.out).mono ?_; rintro e W5 ⟨rfl, hb5⟩; have HL5 := hid (HL4.out.trans (hb5.mono HL4.out.size)); have HR5 := hid ((hb5.block (w.heap.size + 1) (lt_of_heap HR4.out)).trans HR4.out); have HX5 := hid ((hb5.block w.heap.size (lt_of_heap HX4.out)).trans HX4.out); clear hb5 k1 k25 k26 k27 _t tok2; obtain ⟨_, k1, k25, k26, k27⟩ := it_heads HX5.out))
          go_meet
          case rel => exact ⟨by rw [HV.out], by rw [HRI.out]; exact HR5.out, HL5.out⟩
      · have HV := hid (show okI x = false by rw [HOK.out, hn]; simp)
        have HNC := HNM.out
        rw [hn] at HNC
        have HND := hid HNC
        clear HNC
        clear hn
        have tok1 : True := trivial
        go_wp2_with (first | (have _t := tok1; go_at_call 82; refine (HND.out W3 HL3.out).mono ?_; rintro e W4 ⟨rfl, hb4⟩; have HL4 := hid (HL3.out.trans (hb4.mono HL3.out.size)); have HR4 := hid ((hb4.block (w.heap.size + 1) (lt_of_heap HR3.out)).trans HR3.out); have HX4 := hid ((hb4.block w.heap.size (lt_of_heap HX3.out)).trans HX3.out); clear hb4 k1 k25 k26 k27 _t tok1; obtain ⟨_, k1, k25, k26, k27⟩ := it_heads HX4.out))
        go_meet
        case rel => exact ⟨by rw [HV.out], by rw [HRI.out]; exact HR4.out, HL4.out⟩
    by_cases hk2 : y.k = 2
    · have hk := hk2
      clear hk2
      have q1 : (y.k == 1) = false := by rw [hk]; rfl
      have q2 : (y.k == 2) = true := by rw [hk]; rfl
      have q3 : (y.k == 3) = false := by rw [hk]; rfl
      have q4 : (y.k == 4) = false := by rw [hk]; rfl
      have hxk : x.kind = 2 := by rw [← HY.out.2.k]; exact hk
      have HOK := hid (okI_2 hxk)
      have HRI := hid (restI_2 hk)
      clear hk hxk
      obtain ⟨g1, z1⟩ := hold_nm HRS.out
      have HR1 := hid (setI_nm HRS.out)
      have HR3 := hid (Go.Proofs.YtfljcfdfgojdoaaGreatDoor.setRow_heap HR1.out (Iw.cs ⟨y.k, [], y.r, Mw.zero, y.o, y.b, y.ar, y.l, y.q⟩))
      have HX3 := hid ((Go.Proofs.YtfljcfdfgojdoaaGreatDoor.setRow_other (w := W2.setCell ⟨w.heap.size + 1, 1, none⟩ (.string ⟨#[]⟩)) (Iw.cs ⟨y.k, [], y.r, Mw.zero, y.o, y.b, y.ar, y.l, y.q⟩) (show w.heap.size ≠ w.heap.size + 1 by omega)).trans ((box_other (w := W2) (P := w.heap.size + 1) (i := 1) (.string ⟨#[]⟩) (by omega)).trans HBK.out))
      have HL3 := hid (setRow_below (below_set HB.out (show w.heap.size ≤ w.heap.size + 1 by omega) 1 (.string ⟨#[]⟩)) (show w.heap.size ≤ w.heap.size + 1 by omega) (Iw.cs ⟨y.k, [], y.r, Mw.zero, y.o, y.b, y.ar, y.l, y.q⟩))
      go_upto_region 10 with (refine Go.Proofs.YtfljcfdfgojdoaaGreatDoor.wpList_store_at rfl 36 (.tmp 26) (.tmp 24) rfl 14 info44 (w.heap.size + 1) 65 (Iw.cs ⟨y.k, [], y.r, y.m, y.o, y.b, y.ar, y.l, y.q⟩) HR1.out 11 (by rw [itC_size]; decide) mpZ rfl rfl rfl rfl (Iw.cs ⟨y.k, [], y.r, Mw.zero, y.o, y.b, y.ar, y.l, y.q⟩) (put_m0 ⟨y.k, [], y.r, y.m, y.o, y.b, y.ar, y.l, y.q⟩) ?_)
      generalize (W2.setCell ⟨w.heap.size + 1, 1, none⟩ (.string ⟨#[]⟩)).setRow (w.heap.size + 1) (Iw.cs ⟨y.k, [], y.r, Mw.zero, y.o, y.b, y.ar, y.l, y.q⟩) = W3 at *
      clear g1 z1 c0 HR1
      obtain ⟨_, k1, k25, k26, k27⟩ := it_heads HX3.out
      rcases Bool.eq_false_or_eq_true (nameOk x.name) with hn | hn
      · rcases Bool.eq_false_or_eq_true (mrightB 200 x.map) with ho | ho
        · have HV := hid (show okI x = true by rw [HOK.out, hn, ho]; rfl)
          have HNC := HNM.out
          rw [hn] at HNC
          have HND := hid HNC
          clear HNC
          have HOC := HMP.out
          rw [ho] at HOC
          have HOD := hid HOC
          clear HOC
          clear hn ho
          have tok1 : True := trivial
          have tok2 : True := trivial
          go_wp2_with (first | (have _t := tok1; go_at_call 82; refine (HND.out W3 HL3.out).mono ?_; rintro e W4 ⟨rfl, hb4⟩; have HL4 := hid (HL3.out.trans (hb4.mono HL3.out.size)); have HR4 := hid ((hb4.block (w.heap.size + 1) (lt_of_heap HR3.out)).trans HR3.out); have HX4 := hid ((hb4.block w.heap.size (lt_of_heap HX3.out)).trans HX3.out); clear hb4 k1 k25 k26 k27 _t tok1; obtain ⟨_, k1, k25, k26, k27⟩ := it_heads HX4.out) | (with_reducible (show wpList _ _ _ (⟨some 32, Op.load 36 (Operand.tmp 31), _, _, _, _⟩ :: _) _ _); refine wpList_load_part 36 (.tmp 31) rfl (by kernel_rfl) w.heap.size 11 rfl y.m.cs _ (it_ranges HX4.out).2.1 Tryz.underlying36 rfl 14 info44 rfl ?_) | (have _t := tok2; go_at_call 55; refine (HOD.out W4 HL4.out).mono ?_; rintro e W5 ⟨rfl, hb5⟩; have HL5 := hid (HL4.out.trans (hb5.mono HL4.out.size)); have HR5 := hid ((hb5.block (w.heap.size + 1) (lt_of_heap HR4.out)).trans HR4.out); have HX5 := hid ((hb5.block w.heap.size (lt_of_heap HX4.out)).trans HX4.out); clear hb5 k1 k25 k26 k27 _t tok2; obtain ⟨_, k1, k25, k26, k27⟩ := it_heads HX5.out))
          go_meet
          case rel => exact ⟨by rw [HV.out], by rw [HRI.out]; exact HR5.out, HL5.out⟩
        · have HV := hid (show okI x = false by rw [HOK.out, hn, ho]; rfl)
          have HNC := HNM.out
          rw [hn] at HNC
          have HND := hid HNC
          clear HNC
          have HOC := HMP.out
          rw [ho] at HOC
          have HOD := hid HOC
          clear HOC
          clear hn ho
          have tok1 : True := trivial
          have tok2 : True := trivial
          go_wp2_with (first | (have _t := tok1; go_at_call 82; refine (HND.out W3 HL3.out).mono ?_; rintro e W4 ⟨rfl, hb4⟩; have HL4 := hid (HL3.out.trans (hb4.mono HL3.out.size)); have HR4 := hid ((hb4.block (w.heap.size + 1) (lt_of_heap HR3.out)).trans HR3.out); have HX4 := hid ((hb4.block w.heap.size (lt_of_heap HX3.out)).trans HX3.out); clear hb4 k1 k25 k26 k27 _t tok1; obtain ⟨_, k1, k25, k26, k27⟩ := it_heads HX4.out) | (with_reducible (show wpList _ _ _ (⟨some 32, Op.load 36 (Operand.tmp 31), _, _, _, _⟩ :: _) _ _); refine wpList_load_part 36 (.tmp 31) rfl (by kernel_rfl) w.heap.size 11 rfl y.m.cs _ (it_ranges HX4.out).2.1 Tryz.underlying36 rfl 14 info44 rfl ?_) | (have _t := tok2; go_at_call 55; refine (HOD.out W4 HL4.out).mono ?_; rintro e W5 ⟨rfl, hb5⟩; have HL5 := hid (HL4.out.trans (hb5.mono HL4.out.size)); have HR5 := hid ((hb5.block (w.heap.size + 1) (lt_of_heap HR4.out)).trans HR4.out); have HX5 := hid ((hb5.block w.heap.size (lt_of_heap HX4.out)).trans HX4.out); clear hb5 k1 k25 k26 k27 _t tok2; obtain ⟨_, k1, k25, k26, k27⟩ := it_heads HX5.out))
          go_meet
          case rel => exact ⟨by rw [HV.out], by rw [HRI.out]; exact HR5.out, HL5.out⟩
      · have HV := hid (show okI x = false by rw [HOK.out, hn]; simp)
        have HNC := HNM.out
        rw [hn] at HNC
        have HND := hid HNC
        clear HNC
        clear hn
        have tok1 : True := trivial
        go_wp2_with (first | (have _t := tok1; go_at_call 82; refine (HND.out W3 HL3.out).mono ?_; rintro e W4 ⟨rfl, hb4⟩; have HL4 := hid (HL3.out.trans (hb4.mono HL3.out.size)); have HR4 := hid ((hb4.block (w.heap.size + 1) (lt_of_heap HR3.out)).trans HR3.out); have HX4 := hid ((hb4.block w.heap.size (lt_of_heap HX3.out)).trans HX3.out); clear hb4 k1 k25 k26 k27 _t tok1; obtain ⟨_, k1, k25, k26, k27⟩ := it_heads HX4.out))
        go_meet
        case rel => exact ⟨by rw [HV.out], by rw [HRI.out]; exact HR4.out, HL4.out⟩
    by_cases hk3 : y.k = 3
    · have hk := hk3
      clear hk3
      have q1 : (y.k == 1) = false := by rw [hk]; rfl
      have q2 : (y.k == 2) = false := by rw [hk]; rfl
      have q3 : (y.k == 3) = true := by rw [hk]; rfl
      have q4 : (y.k == 4) = false := by rw [hk]; rfl
      have HK := hid hk
      have hxk : x.kind = 3 := by rw [← HY.out.2.k]; exact hk
      have HOK := hid (show okI x = (((okB x.re && decide (y.o.length ≤ 256)) && (decide (y.b = []) || (decide (y.o = []) && nameOk x.by_))) && (!y.ar || (okB x.left && okB x.right))) by rw [okI_3 hxk, HY.out.2.o, HY.out.2.b, HY.out.2.ar])
      clear hk hxk
      have HA := hid (Go.Proofs.YtfljcfdfgojdoaaGreatDoor.setRow_heap HRS.out (Iw.cs ⟨y.k, y.nm, Rw.zero, y.m, y.o, y.b, y.ar, y.l, y.q⟩))
      obtain ⟨g25, z25⟩ := (it_cells HA.out).1
      have HBB := hid (setI_o HA.out)
      obtain ⟨g26, z26⟩ := (it_cells HBB.out).2.1
      have HR3 := hid (setI_b HBB.out)
      have HX3 := hid ((box_other (w := ((W2.setRow (w.heap.size + 1) (Iw.cs ⟨y.k, y.nm, Rw.zero, y.m, y.o, y.b, y.ar, y.l, y.q⟩)).setCell ⟨w.heap.size + 1, 25, none⟩ (.string ⟨#[]⟩))) (P := w.heap.size + 1) (i := 26) (.string ⟨#[]⟩) (by omega)).trans ((box_other (w := (W2.setRow (w.heap.size + 1) (Iw.cs ⟨y.k, y.nm, Rw.zero, y.m, y.o, y.b, y.ar, y.l, y.q⟩))) (P := w.heap.size + 1) (i := 25) (.string ⟨#[]⟩) (by omega)).trans ((Go.Proofs.YtfljcfdfgojdoaaGreatDoor.setRow_other (w := W2) (Iw.cs ⟨y.k, y.nm, Rw.zero, y.m, y.o, y.b, y.ar, y.l, y.q⟩) (show w.heap.size ≠ w.heap.size + 1 by omega)).trans HBK.out)))
      have HL3 := hid (below_set (below_set (setRow_below HB.out (show w.heap.size ≤ w.heap.size + 1 by omega) (Iw.cs ⟨y.k, y.nm, Rw.zero, y.m, y.o, y.b, y.ar, y.l, y.q⟩)) (show w.heap.size ≤ w.heap.size + 1 by omega) 25 (.string ⟨#[]⟩)) (show w.heap.size ≤ w.heap.size + 1 by omega) 26 (.string ⟨#[]⟩))
      go_upto_region 13 with (refine Go.Proofs.YtfljcfdfgojdoaaGreatDoor.wpList_store_at rfl 33 (.tmp 38) (.tmp 37) rfl 9 info27 (w.heap.size + 1) 65 y.cs HRS.out 2 (by rw [itC_size]; decide) reZ rfl rfl rfl rfl (Iw.cs ⟨y.k, y.nm, Rw.zero, y.m, y.o, y.b, y.ar, y.l, y.q⟩) (put_r0 y) ?_)
      generalize ((W2.setRow (w.heap.size + 1) (Iw.cs ⟨y.k, y.nm, Rw.zero, y.m, y.o, y.b, y.ar, y.l, y.q⟩)).setCell ⟨w.heap.size + 1, 25, none⟩ (.string ⟨#[]⟩)).setCell ⟨w.heap.size + 1, 26, none⟩ (.string ⟨#[]⟩) = W3 at *
      clear g25 z25 g26 z26 c0 HA HBB
      obtain ⟨_, k1, k25, k26, k27⟩ := it_heads HX3.out
      go_cut [4] (fun v wx => v = .bool (okB x.re && decide (y.o.length ≤ 256)) ∧ wx.heap[w.heap.size + 1]? = some (.cells (Iw.cs ⟨y.k, y.nm, Rw.zero, y.m, [], [], y.ar, y.l, y.q⟩) 65 (0, 0)) ∧ wx.heap[w.heap.size]? = some (.cells y.cs 65 (0, 0)) ∧ Below w.heap.size w wx)
      case first =>
        rcases Bool.eq_false_or_eq_true (okB x.re) with ho | ho
        · rcases Bool.eq_false_or_eq_true (decide (y.o.length ≤ 256)) with hl | hl
          · have HREC := HRE.out
            rw [ho] at HREC
            have HRED := hid HREC
            clear HREC
            have HV := hid (show (okB x.re && decide (y.o.length ≤ 256)) = true by rw [ho, hl]; first | rfl | simp)
            have hoz : ((⟨y.o.toArray⟩ : ByteArray).size : Int) ≤ 256 := by rw [str_size]; have := of_decide_eq_true hl; omega
            have hoz2 : (y.o.length : Int) ≤ 256 := by have := of_decide_eq_true hl; omega
            clear ho hl
            have tok1 : True := trivial
            go_wp2_with (first | (with_reducible (show wpList _ _ _ (⟨some 42, Op.load 33 (Operand.tmp 41), _, _, _, _⟩ :: _) _ _); refine wpList_load_part 33 (.tmp 41) rfl (by kernel_rfl) w.heap.size 2 rfl y.r.cs _ (it_ranges HX3.out).1 Tryz.underlying33 rfl 9 info27 rfl ?_) | (have _t := tok1; go_at_call 83; refine (HRED.out W3 HL3.out).mono ?_; rintro e W4 ⟨rfl, hb4⟩; have HL4 := hid (HL3.out.trans (hb4.mono HL3.out.size)); have HR4 := hid ((hb4.block (w.heap.size + 1) (lt_of_heap HR3.out)).trans HR3.out); have HX4 := hid ((hb4.block w.heap.size (lt_of_heap HX3.out)).trans HX3.out); clear hb4 k1 k25 k26 k27 _t tok1; obtain ⟨_, k1, k25, k26, k27⟩ := it_heads HX4.out))
            go_meet
            case rel => exact ⟨by first | (rw [HV.out]; done) | (rw [HV.out, decide_eq_true (by omega)]), HR4.out, HX4.out, HL4.out⟩
          · have HREC := HRE.out
            rw [ho] at HREC
            have HRED := hid HREC
            clear HREC
            have HV := hid (show (okB x.re && decide (y.o.length ≤ 256)) = false by rw [ho, hl]; first | rfl | simp)
            have hoz : ¬ ((⟨y.o.toArray⟩ : ByteArray).size : Int) ≤ 256 := by rw [str_size]; have := of_decide_eq_false hl; omega
            have hoz2 : ¬ (y.o.length : Int) ≤ 256 := by have := of_decide_eq_false hl; omega
            clear ho hl
            have tok1 : True := trivial
            go_wp2_with (first | (with_reducible (show wpList _ _ _ (⟨some 42, Op.load 33 (Operand.tmp 41), _, _, _, _⟩ :: _) _ _); refine wpList_load_part 33 (.tmp 41) rfl (by kernel_rfl) w.heap.size 2 rfl y.r.cs _ (it_ranges HX3.out).1 Tryz.underlying33 rfl 9 info27 rfl ?_) | (have _t := tok1; go_at_call 83; refine (HRED.out W3 HL3.out).mono ?_; rintro e W4 ⟨rfl, hb4⟩; have HL4 := hid (HL3.out.trans (hb4.mono HL3.out.size)); have HR4 := hid ((hb4.block (w.heap.size + 1) (lt_of_heap HR3.out)).trans HR3.out); have HX4 := hid ((hb4.block w.heap.size (lt_of_heap HX3.out)).trans HX3.out); clear hb4 k1 k25 k26 k27 _t tok1; obtain ⟨_, k1, k25, k26, k27⟩ := it_heads HX4.out))
            go_meet
            case rel => exact ⟨by first | (rw [HV.out]; done) | (rw [HV.out, decide_eq_false (by omega)]), HR4.out, HX4.out, HL4.out⟩
        · have HREC := HRE.out
          rw [ho] at HREC
          have HRED := hid HREC
          clear HREC
          have HV := hid (show (okB x.re && decide (y.o.length ≤ 256)) = false by rw [ho]; first | rfl | simp)
          clear ho
          have tok1 : True := trivial
          go_wp2_with (first | (with_reducible (show wpList _ _ _ (⟨some 42, Op.load 33 (Operand.tmp 41), _, _, _, _⟩ :: _) _ _); refine wpList_load_part 33 (.tmp 41) rfl (by kernel_rfl) w.heap.size 2 rfl y.r.cs _ (it_ranges HX3.out).1 Tryz.underlying33 rfl 9 info27 rfl ?_) | (have _t := tok1; go_at_call 83; refine (HRED.out W3 HL3.out).mono ?_; rintro e W4 ⟨rfl, hb4⟩; have HL4 := hid (HL3.out.trans (hb4.mono HL3.out.size)); have HR4 := hid ((hb4.block (w.heap.size + 1) (lt_of_heap HR3.out)).trans HR3.out); have HX4 := hid ((hb4.block w.heap.size (lt_of_heap HX3.out)).trans HX3.out); clear hb4 k1 k25 k26 k27 _t tok1; obtain ⟨_, k1, k25, k26, k27⟩ := it_heads HX4.out))
          go_meet
          case rel => exact ⟨by first | (rw [HV.out]; done), HR4.out, HX4.out, HL4.out⟩
      case rest =>
        obtain ⟨rfl, hrc, hxc, hlc⟩ := hcut
        have HR4 := hid hrc
        have HX4 := hid hxc
        have HL4 := hid hlc
        clear hrc hxc hlc k1 k25 k26 k27
        obtain ⟨_, k1, k25, k26, k27⟩ := it_heads HX4.out
        go_upto_if 52 with fail
        go_cut [4] (fun v wx => v = .bool ((okB x.re && decide (y.o.length ≤ 256)) && (decide (y.b = []) || (decide (y.o = []) && nameOk x.by_))) ∧ wx.heap[w.heap.size + 1]? = some (.cells (Iw.cs ⟨y.k, y.nm, Rw.zero, y.m, [], [], y.ar, y.l, y.q⟩) 65 (0, 0)) ∧ wx.heap[w.heap.size]? = some (.cells y.cs 65 (0, 0)) ∧ Below w.heap.size w wx)
        case first =>
          by_cases hbe : y.b = []
          · have HV := hid (show (decide (y.b = []) || (decide (y.o = []) && nameOk x.by_)) = true by rw [decide_eq_true hbe]; rfl)
            have sbe : (!y.b.isEmpty) = false := by rw [hbe]; rfl
            rw [sbe]
            clear hbe
            go_wp2
            go_meet
            case rel => exact ⟨by rw [HV.out, Bool.and_true], HR4.out, HX4.out, HL4.out⟩
          · rcases Bool.eq_false_or_eq_true ((okB x.re && decide (y.o.length ≤ 256))) with hA | hA
            · by_cases hoe : y.o = []
              · rcases Bool.eq_false_or_eq_true (nameOk x.by_) with hnb | hnb
                · have HV := hid (show (decide (y.b = []) || (decide (y.o = []) && nameOk x.by_)) = true by rw [decide_eq_false hbe, decide_eq_true hoe, hnb]; first | rfl | simp)
                  obtain ⟨_, sb⟩ := str_none hbe
                  have sbe : (!y.b.isEmpty) = true := by cases hq : y.b with | nil => exact absurd hq hbe | cons _ _ => rfl
                  rw [sbe]
                  have HNBC := HNB.out
                  rw [hnb] at HNBC
                  have HNBD := hid HNBC
                  clear HNBC
                  have SO := hid (str_same _ hoe)
                  rw [SO.out] at k25
                  rw [hA]
                  have HAH := hid hA
                  clear hbe hoe hnb hA
                  have tok2 : True := trivial
                  go_wp2_with (have _t := tok2; go_at_call 82; refine (HNBD.out wc HL4.out).mono ?_; rintro e W5 ⟨rfl, hb5⟩; have HL5 := hid (HL4.out.trans (hb5.mono HL4.out.size)); have HR5 := hid ((hb5.block (w.heap.size + 1) (lt_of_heap HR4.out)).trans HR4.out); have HX5 := hid ((hb5.block w.heap.size (lt_of_heap HX4.out)).trans HX4.out); clear hb5 k1 k25 k26 k27 _t tok2; obtain ⟨_, k1, k25, k26, k27⟩ := it_heads HX5.out)
                  go_meet
                  case rel => exact ⟨by rw [HAH.out, HV.out]; rfl, HR5.out, HX5.out, HL5.out⟩
                · have HV := hid (show (decide (y.b = []) || (decide (y.o = []) && nameOk x.by_)) = false by rw [decide_eq_false hbe, decide_eq_true hoe, hnb]; first | rfl | simp)
                  obtain ⟨_, sb⟩ := str_none hbe
                  have sbe : (!y.b.isEmpty) = true := by cases hq : y.b with | nil => exact absurd hq hbe | cons _ _ => rfl
                  rw [sbe]
                  have HNBC := HNB.out
                  rw [hnb] at HNBC
                  have HNBD := hid HNBC
                  clear HNBC
                  have SO := hid (str_same _ hoe)
                  rw [SO.out] at k25
                  rw [hA]
                  have HAH := hid hA
                  clear hbe hoe hnb hA
                  have tok2 : True := trivial
                  go_wp2_with (have _t := tok2; go_at_call 82; refine (HNBD.out wc HL4.out).mono ?_; rintro e W5 ⟨rfl, hb5⟩; have HL5 := hid (HL4.out.trans (hb5.mono HL4.out.size)); have HR5 := hid ((hb5.block (w.heap.size + 1) (lt_of_heap HR4.out)).trans HR4.out); have HX5 := hid ((hb5.block w.heap.size (lt_of_heap HX4.out)).trans HX4.out); clear hb5 k1 k25 k26 k27 _t tok2; obtain ⟨_, k1, k25, k26, k27⟩ := it_heads HX5.out)
                  go_meet
                  case rel => exact ⟨by rw [HAH.out, HV.out]; rfl, HR5.out, HX5.out, HL5.out⟩
              · have HV := hid (show (decide (y.b = []) || (decide (y.o = []) && nameOk x.by_)) = false by rw [decide_eq_false hbe, decide_eq_false hoe]; rfl)
                obtain ⟨_, sb⟩ := str_none hbe
                have sbe : (!y.b.isEmpty) = true := by cases hq : y.b with | nil => exact absurd hq hbe | cons _ _ => rfl
                rw [sbe]
                obtain ⟨_, so⟩ := str_none hoe
                have soe : y.o.isEmpty = false := by cases hq : y.o with | nil => exact absurd hq hoe | cons _ _ => rfl
                rw [hA]
                have HAH := hid hA
                clear hbe hoe hA
                go_wp2
                go_meet
                case rel => exact ⟨by rw [HAH.out, HV.out]; rfl, HR4.out, HX4.out, HL4.out⟩
            · obtain ⟨_, sb⟩ := str_none hbe
              have sbe : (!y.b.isEmpty) = true := by cases hq : y.b with | nil => exact absurd hq hbe | cons _ _ => rfl
              rw [sbe]
              rw [hA]
              have HAH := hid hA
              clear hbe hA
              go_wp2
              go_meet
              case rel => exact ⟨by rw [HAH.out]; rfl, HR4.out, HX4.out, HL4.out⟩
        case rest =>
          obtain ⟨rfl, hrc, hxc, hlc⟩ := hcut
          have HRc := hid hrc
          have HXc := hid hxc
          have HLc := hid hlc
          clear hrc hxc hlc k1 k25 k26 k27
          rcases Bool.eq_false_or_eq_true ((okB x.re && decide (y.o.length ≤ 256)) && (decide (y.b = []) || (decide (y.o = []) && nameOk x.by_))) with hbo | hbo
          · rw [hbo]
            rcases Bool.eq_false_or_eq_true (y.ar) with har | har
            · rcases Bool.eq_false_or_eq_true (okB x.left) with hle | hle
              · rcases Bool.eq_false_or_eq_true (okB x.right) with hri | hri
                · have HV := hid (show okI x = true by rw [HOK.out, hbo, har, hle, hri]; first | rfl | simp)
                  have HRI := hid ((restI_3 HK.out).trans (if_pos har))
                  have HRLC := HRL.out
                  rw [hle] at HRLC
                  have HRLD := hid HRLC
                  clear HRLC
                  have HRQC := HRQ.out
                  rw [hri] at HRQC
                  have HRQD := hid HRQC
                  clear HRQC
                  obtain ⟨_, k1, k25, k26, k27⟩ := it_heads HXc.out
                  rw [har] at k27
                  clear har hle hri
                  obtain ⟨g27, z27⟩ := (it_cells HRc.out).2.2
                  have H27 := hid (setI_ar HRc.out)
                  have H28 := hid (Go.Proofs.YtfljcfdfgojdoaaGreatDoor.setRow_heap H27.out (Iw.cs ⟨y.k, y.nm, Rw.zero, y.m, [], [], false, Rw.zero, y.q⟩))
                  have HR7 := hid (Go.Proofs.YtfljcfdfgojdoaaGreatDoor.setRow_heap H28.out (Iw.cs ⟨y.k, y.nm, Rw.zero, y.m, [], [], false, Rw.zero, Rw.zero⟩))
                  have HX7 := hid ((Go.Proofs.YtfljcfdfgojdoaaGreatDoor.setRow_other (w := (wc.setCell ⟨w.heap.size + 1, 27, none⟩ (.bool false)).setRow (w.heap.size + 1) (Iw.cs ⟨y.k, y.nm, Rw.zero, y.m, [], [], false, Rw.zero, y.q⟩)) (Iw.cs ⟨y.k, y.nm, Rw.zero, y.m, [], [], false, Rw.zero, Rw.zero⟩) (show w.heap.size ≠ w.heap.size + 1 by omega)).trans ((Go.Proofs.YtfljcfdfgojdoaaGreatDoor.setRow_other (w := (wc.setCell ⟨w.heap.size + 1, 27, none⟩ (.bool false))) (Iw.cs ⟨y.k, y.nm, Rw.zero, y.m, [], [], false, Rw.zero, y.q⟩) (show w.heap.size ≠ w.heap.size + 1 by omega)).trans ((box_other (w := wc) (P := w.heap.size + 1) (i := 27) (.bool false) (by omega)).trans HXc.out)))
                  have HL7 := hid (setRow_below (setRow_below (below_set HLc.out (show w.heap.size ≤ w.heap.size + 1 by omega) 27 (.bool false)) (show w.heap.size ≤ w.heap.size + 1 by omega) (Iw.cs ⟨y.k, y.nm, Rw.zero, y.m, [], [], false, Rw.zero, y.q⟩)) (show w.heap.size ≤ w.heap.size + 1 by omega) (Iw.cs ⟨y.k, y.nm, Rw.zero, y.m, [], [], false, Rw.zero, Rw.zero⟩))
                  go_upto_region 18 with (first | (refine Go.Proofs.YtfljcfdfgojdoaaGreatDoor.wpList_store_at rfl 33 (.tmp 69) (.tmp 66) rfl 9 info27 (w.heap.size + 1) 65 (Iw.cs ⟨y.k, y.nm, Rw.zero, y.m, [], [], false, y.l, y.q⟩) H27.out 28 (by rw [itC_size]; decide) reZ rfl rfl rfl rfl (Iw.cs ⟨y.k, y.nm, Rw.zero, y.m, [], [], false, Rw.zero, y.q⟩) (put_l0 ⟨y.k, y.nm, Rw.zero, y.m, [], [], false, y.l, y.q⟩) ?_) | (refine Go.Proofs.YtfljcfdfgojdoaaGreatDoor.wpList_store_at rfl 33 (.tmp 70) (.tmp 67) rfl 9 info27 (w.heap.size + 1) 65 (Iw.cs ⟨y.k, y.nm, Rw.zero, y.m, [], [], false, Rw.zero, y.q⟩) H28.out 37 (by rw [itC_size]; decide) reZ rfl rfl rfl rfl (Iw.cs ⟨y.k, y.nm, Rw.zero, y.m, [], [], false, Rw.zero, Rw.zero⟩) (put_q0 ⟨y.k, y.nm, Rw.zero, y.m, [], [], false, Rw.zero, y.q⟩) ?_))
                  generalize ((wc.setCell ⟨w.heap.size + 1, 27, none⟩ (.bool false)).setRow (w.heap.size + 1) (Iw.cs ⟨y.k, y.nm, Rw.zero, y.m, [], [], false, Rw.zero, y.q⟩)).setRow (w.heap.size + 1) (Iw.cs ⟨y.k, y.nm, Rw.zero, y.m, [], [], false, Rw.zero, Rw.zero⟩) = W7 at *
                  clear g27 z27 H27 H28 k1 k25 k26 k27
                  obtain ⟨_, k1, k25, k26, k27⟩ := it_heads HX7.out
                  have tok3 : True := trivial
                  have tok4 : True := trivial
                  go_wp2_with (first | (with_reducible (show wpList _ _ _ (⟨some 74, Op.load 33 (Operand.tmp 73), _, _, _, _⟩ :: _) _ _); refine wpList_load_part 33 (.tmp 73) rfl (by kernel_rfl) w.heap.size 28 rfl y.l.cs _ (it_ranges HX7.out).2.2.1 Tryz.underlying33 rfl 9 info27 rfl ?_) | (have _t := tok3; go_at_call 83; refine (HRLD.out W7 HL7.out).mono ?_; rintro e W8 ⟨rfl, hb8⟩; have HL8 := hid (HL7.out.trans (hb8.mono HL7.out.size)); have HR8 := hid ((hb8.block (w.heap.size + 1) (lt_of_heap HR7.out)).trans HR7.out); have HX8 := hid ((hb8.block w.heap.size (lt_of_heap HX7.out)).trans HX7.out); clear hb8 k1 k25 k26 k27 _t tok3; obtain ⟨_, k1, k25, k26, k27⟩ := it_heads HX8.out) | (with_reducible (show wpList _ _ _ (⟨some 79, Op.load 33 (Operand.tmp 78), _, _, _, _⟩ :: _) _ _); refine wpList_load_part 33 (.tmp 78) rfl (by kernel_rfl) w.heap.size 37 rfl y.q.cs _ (it_ranges HX8.out).2.2.2 Tryz.underlying33 rfl 9 info27 rfl ?_) | (have _t := tok4; go_at_call 83; refine (HRQD.out W8 HL8.out).mono ?_; rintro e W9 ⟨rfl, hb9⟩; have HL9 := hid (HL8.out.trans (hb9.mono HL8.out.size)); have HR9 := hid ((hb9.block (w.heap.size + 1) (lt_of_heap HR8.out)).trans HR8.out); have HX9 := hid ((hb9.block w.heap.size (lt_of_heap HX8.out)).trans HX8.out); clear hb9 k1 k25 k26 k27 _t tok4; obtain ⟨_, k1, k25, k26, k27⟩ := it_heads HX9.out))
                  go_meet
                  case rel => exact ⟨by rw [HV.out], by rw [HRI.out]; exact HR9.out, HL9.out⟩
                · have HV := hid (show okI x = false by rw [HOK.out, hbo, har, hle, hri]; first | rfl | simp)
                  have HRI := hid ((restI_3 HK.out).trans (if_pos har))
                  have HRLC := HRL.out
                  rw [hle] at HRLC
                  have HRLD := hid HRLC
                  clear HRLC
                  have HRQC := HRQ.out
                  rw [hri] at HRQC
                  have HRQD := hid HRQC
                  clear HRQC
                  obtain ⟨_, k1, k25, k26, k27⟩ := it_heads HXc.out
                  rw [har] at k27
                  clear har hle hri
                  obtain ⟨g27, z27⟩ := (it_cells HRc.out).2.2
                  have H27 := hid (setI_ar HRc.out)
                  have H28 := hid (Go.Proofs.YtfljcfdfgojdoaaGreatDoor.setRow_heap H27.out (Iw.cs ⟨y.k, y.nm, Rw.zero, y.m, [], [], false, Rw.zero, y.q⟩))
                  have HR7 := hid (Go.Proofs.YtfljcfdfgojdoaaGreatDoor.setRow_heap H28.out (Iw.cs ⟨y.k, y.nm, Rw.zero, y.m, [], [], false, Rw.zero, Rw.zero⟩))
                  have HX7 := hid ((Go.Proofs.YtfljcfdfgojdoaaGreatDoor.setRow_other (w := (wc.setCell ⟨w.heap.size + 1, 27, none⟩ (.bool false)).setRow (w.heap.size + 1) (Iw.cs ⟨y.k, y.nm, Rw.zero, y.m, [], [], false, Rw.zero, y.q⟩)) (Iw.cs ⟨y.k, y.nm, Rw.zero, y.m, [], [], false, Rw.zero, Rw.zero⟩) (show w.heap.size ≠ w.heap.size + 1 by omega)).trans ((Go.Proofs.YtfljcfdfgojdoaaGreatDoor.setRow_other (w := (wc.setCell ⟨w.heap.size + 1, 27, none⟩ (.bool false))) (Iw.cs ⟨y.k, y.nm, Rw.zero, y.m, [], [], false, Rw.zero, y.q⟩) (show w.heap.size ≠ w.heap.size + 1 by omega)).trans ((box_other (w := wc) (P := w.heap.size + 1) (i := 27) (.bool false) (by omega)).trans HXc.out)))
                  have HL7 := hid (setRow_below (setRow_below (below_set HLc.out (show w.heap.size ≤ w.heap.size + 1 by omega) 27 (.bool false)) (show w.heap.size ≤ w.heap.size + 1 by omega) (Iw.cs ⟨y.k, y.nm, Rw.zero, y.m, [], [], false, Rw.zero, y.q⟩)) (show w.heap.size ≤ w.heap.size + 1 by omega) (Iw.cs ⟨y.k, y.nm, Rw.zero, y.m, [], [], false, Rw.zero, Rw.zero⟩))
                  go_upto_region 18 with (first | (refine Go.Proofs.YtfljcfdfgojdoaaGreatDoor.wpList_store_at rfl 33 (.tmp 69) (.tmp 66) rfl 9 info27 (w.heap.size + 1) 65 (Iw.cs ⟨y.k, y.nm, Rw.zero, y.m, [], [], false, y.l, y.q⟩) H27.out 28 (by rw [itC_size]; decide) reZ rfl rfl rfl rfl (Iw.cs ⟨y.k, y.nm, Rw.zero, y.m, [], [], false, Rw.zero, y.q⟩) (put_l0 ⟨y.k, y.nm, Rw.zero, y.m, [], [], false, y.l, y.q⟩) ?_) | (refine Go.Proofs.YtfljcfdfgojdoaaGreatDoor.wpList_store_at rfl 33 (.tmp 70) (.tmp 67) rfl 9 info27 (w.heap.size + 1) 65 (Iw.cs ⟨y.k, y.nm, Rw.zero, y.m, [], [], false, Rw.zero, y.q⟩) H28.out 37 (by rw [itC_size]; decide) reZ rfl rfl rfl rfl (Iw.cs ⟨y.k, y.nm, Rw.zero, y.m, [], [], false, Rw.zero, Rw.zero⟩) (put_q0 ⟨y.k, y.nm, Rw.zero, y.m, [], [], false, Rw.zero, y.q⟩) ?_))
                  generalize ((wc.setCell ⟨w.heap.size + 1, 27, none⟩ (.bool false)).setRow (w.heap.size + 1) (Iw.cs ⟨y.k, y.nm, Rw.zero, y.m, [], [], false, Rw.zero, y.q⟩)).setRow (w.heap.size + 1) (Iw.cs ⟨y.k, y.nm, Rw.zero, y.m, [], [], false, Rw.zero, Rw.zero⟩) = W7 at *
                  clear g27 z27 H27 H28 k1 k25 k26 k27
                  obtain ⟨_, k1, k25, k26, k27⟩ := it_heads HX7.out
                  have tok3 : True := trivial
                  have tok4 : True := trivial
                  go_wp2_with (first | (with_reducible (show wpList _ _ _ (⟨some 74, Op.load 33 (Operand.tmp 73), _, _, _, _⟩ :: _) _ _); refine wpList_load_part 33 (.tmp 73) rfl (by kernel_rfl) w.heap.size 28 rfl y.l.cs _ (it_ranges HX7.out).2.2.1 Tryz.underlying33 rfl 9 info27 rfl ?_) | (have _t := tok3; go_at_call 83; refine (HRLD.out W7 HL7.out).mono ?_; rintro e W8 ⟨rfl, hb8⟩; have HL8 := hid (HL7.out.trans (hb8.mono HL7.out.size)); have HR8 := hid ((hb8.block (w.heap.size + 1) (lt_of_heap HR7.out)).trans HR7.out); have HX8 := hid ((hb8.block w.heap.size (lt_of_heap HX7.out)).trans HX7.out); clear hb8 k1 k25 k26 k27 _t tok3; obtain ⟨_, k1, k25, k26, k27⟩ := it_heads HX8.out) | (with_reducible (show wpList _ _ _ (⟨some 79, Op.load 33 (Operand.tmp 78), _, _, _, _⟩ :: _) _ _); refine wpList_load_part 33 (.tmp 78) rfl (by kernel_rfl) w.heap.size 37 rfl y.q.cs _ (it_ranges HX8.out).2.2.2 Tryz.underlying33 rfl 9 info27 rfl ?_) | (have _t := tok4; go_at_call 83; refine (HRQD.out W8 HL8.out).mono ?_; rintro e W9 ⟨rfl, hb9⟩; have HL9 := hid (HL8.out.trans (hb9.mono HL8.out.size)); have HR9 := hid ((hb9.block (w.heap.size + 1) (lt_of_heap HR8.out)).trans HR8.out); have HX9 := hid ((hb9.block w.heap.size (lt_of_heap HX8.out)).trans HX8.out); clear hb9 k1 k25 k26 k27 _t tok4; obtain ⟨_, k1, k25, k26, k27⟩ := it_heads HX9.out))
                  go_meet
                  case rel => exact ⟨by rw [HV.out], by rw [HRI.out]; exact HR9.out, HL9.out⟩
              · have HV := hid (show okI x = false by rw [HOK.out, hbo, har, hle]; first | rfl | simp)
                have HRI := hid ((restI_3 HK.out).trans (if_pos har))
                have HRLC := HRL.out
                rw [hle] at HRLC
                have HRLD := hid HRLC
                clear HRLC
                obtain ⟨_, k1, k25, k26, k27⟩ := it_heads HXc.out
                rw [har] at k27
                clear har hle
                obtain ⟨g27, z27⟩ := (it_cells HRc.out).2.2
                have H27 := hid (setI_ar HRc.out)
                have H28 := hid (Go.Proofs.YtfljcfdfgojdoaaGreatDoor.setRow_heap H27.out (Iw.cs ⟨y.k, y.nm, Rw.zero, y.m, [], [], false, Rw.zero, y.q⟩))
                have HR7 := hid (Go.Proofs.YtfljcfdfgojdoaaGreatDoor.setRow_heap H28.out (Iw.cs ⟨y.k, y.nm, Rw.zero, y.m, [], [], false, Rw.zero, Rw.zero⟩))
                have HX7 := hid ((Go.Proofs.YtfljcfdfgojdoaaGreatDoor.setRow_other (w := (wc.setCell ⟨w.heap.size + 1, 27, none⟩ (.bool false)).setRow (w.heap.size + 1) (Iw.cs ⟨y.k, y.nm, Rw.zero, y.m, [], [], false, Rw.zero, y.q⟩)) (Iw.cs ⟨y.k, y.nm, Rw.zero, y.m, [], [], false, Rw.zero, Rw.zero⟩) (show w.heap.size ≠ w.heap.size + 1 by omega)).trans ((Go.Proofs.YtfljcfdfgojdoaaGreatDoor.setRow_other (w := (wc.setCell ⟨w.heap.size + 1, 27, none⟩ (.bool false))) (Iw.cs ⟨y.k, y.nm, Rw.zero, y.m, [], [], false, Rw.zero, y.q⟩) (show w.heap.size ≠ w.heap.size + 1 by omega)).trans ((box_other (w := wc) (P := w.heap.size + 1) (i := 27) (.bool false) (by omega)).trans HXc.out)))
                have HL7 := hid (setRow_below (setRow_below (below_set HLc.out (show w.heap.size ≤ w.heap.size + 1 by omega) 27 (.bool false)) (show w.heap.size ≤ w.heap.size + 1 by omega) (Iw.cs ⟨y.k, y.nm, Rw.zero, y.m, [], [], false, Rw.zero, y.q⟩)) (show w.heap.size ≤ w.heap.size + 1 by omega) (Iw.cs ⟨y.k, y.nm, Rw.zero, y.m, [], [], false, Rw.zero, Rw.zero⟩))
                go_upto_region 18 with (first | (refine Go.Proofs.YtfljcfdfgojdoaaGreatDoor.wpList_store_at rfl 33 (.tmp 69) (.tmp 66) rfl 9 info27 (w.heap.size + 1) 65 (Iw.cs ⟨y.k, y.nm, Rw.zero, y.m, [], [], false, y.l, y.q⟩) H27.out 28 (by rw [itC_size]; decide) reZ rfl rfl rfl rfl (Iw.cs ⟨y.k, y.nm, Rw.zero, y.m, [], [], false, Rw.zero, y.q⟩) (put_l0 ⟨y.k, y.nm, Rw.zero, y.m, [], [], false, y.l, y.q⟩) ?_) | (refine Go.Proofs.YtfljcfdfgojdoaaGreatDoor.wpList_store_at rfl 33 (.tmp 70) (.tmp 67) rfl 9 info27 (w.heap.size + 1) 65 (Iw.cs ⟨y.k, y.nm, Rw.zero, y.m, [], [], false, Rw.zero, y.q⟩) H28.out 37 (by rw [itC_size]; decide) reZ rfl rfl rfl rfl (Iw.cs ⟨y.k, y.nm, Rw.zero, y.m, [], [], false, Rw.zero, Rw.zero⟩) (put_q0 ⟨y.k, y.nm, Rw.zero, y.m, [], [], false, Rw.zero, y.q⟩) ?_))
                generalize ((wc.setCell ⟨w.heap.size + 1, 27, none⟩ (.bool false)).setRow (w.heap.size + 1) (Iw.cs ⟨y.k, y.nm, Rw.zero, y.m, [], [], false, Rw.zero, y.q⟩)).setRow (w.heap.size + 1) (Iw.cs ⟨y.k, y.nm, Rw.zero, y.m, [], [], false, Rw.zero, Rw.zero⟩) = W7 at *
                clear g27 z27 H27 H28 k1 k25 k26 k27
                obtain ⟨_, k1, k25, k26, k27⟩ := it_heads HX7.out
                have tok3 : True := trivial
                go_wp2_with (first | (with_reducible (show wpList _ _ _ (⟨some 74, Op.load 33 (Operand.tmp 73), _, _, _, _⟩ :: _) _ _); refine wpList_load_part 33 (.tmp 73) rfl (by kernel_rfl) w.heap.size 28 rfl y.l.cs _ (it_ranges HX7.out).2.2.1 Tryz.underlying33 rfl 9 info27 rfl ?_) | (have _t := tok3; go_at_call 83; refine (HRLD.out W7 HL7.out).mono ?_; rintro e W8 ⟨rfl, hb8⟩; have HL8 := hid (HL7.out.trans (hb8.mono HL7.out.size)); have HR8 := hid ((hb8.block (w.heap.size + 1) (lt_of_heap HR7.out)).trans HR7.out); have HX8 := hid ((hb8.block w.heap.size (lt_of_heap HX7.out)).trans HX7.out); clear hb8 k1 k25 k26 k27 _t tok3; obtain ⟨_, k1, k25, k26, k27⟩ := it_heads HX8.out))
                go_meet
                case rel => exact ⟨by rw [HV.out], by rw [HRI.out]; exact HR8.out, HL8.out⟩
            · have HV := hid (show okI x = true by rw [HOK.out, hbo, har]; first | rfl | simp)
              have HRI := hid ((restI_3 HK.out).trans (if_neg (by rw [har]; decide)))
              obtain ⟨_, k1, k25, k26, k27⟩ := it_heads HXc.out
              rw [har] at k27
              clear har
              go_wp2
              go_meet
              case rel => exact ⟨by rw [HV.out], by rw [HRI.out]; exact HRc.out, HLc.out⟩
          · rw [hbo]
            rcases Bool.eq_false_or_eq_true (y.ar) with har | har
            · have HV := hid (show okI x = false by rw [HOK.out, hbo, har]; first | rfl | simp)
              have HRI := hid ((restI_3 HK.out).trans (if_pos har))
              obtain ⟨_, k1, k25, k26, k27⟩ := it_heads HXc.out
              rw [har] at k27
              clear har
              obtain ⟨g27, z27⟩ := (it_cells HRc.out).2.2
              have H27 := hid (setI_ar HRc.out)
              have H28 := hid (Go.Proofs.YtfljcfdfgojdoaaGreatDoor.setRow_heap H27.out (Iw.cs ⟨y.k, y.nm, Rw.zero, y.m, [], [], false, Rw.zero, y.q⟩))
              have HR7 := hid (Go.Proofs.YtfljcfdfgojdoaaGreatDoor.setRow_heap H28.out (Iw.cs ⟨y.k, y.nm, Rw.zero, y.m, [], [], false, Rw.zero, Rw.zero⟩))
              have HX7 := hid ((Go.Proofs.YtfljcfdfgojdoaaGreatDoor.setRow_other (w := (wc.setCell ⟨w.heap.size + 1, 27, none⟩ (.bool false)).setRow (w.heap.size + 1) (Iw.cs ⟨y.k, y.nm, Rw.zero, y.m, [], [], false, Rw.zero, y.q⟩)) (Iw.cs ⟨y.k, y.nm, Rw.zero, y.m, [], [], false, Rw.zero, Rw.zero⟩) (show w.heap.size ≠ w.heap.size + 1 by omega)).trans ((Go.Proofs.YtfljcfdfgojdoaaGreatDoor.setRow_other (w := (wc.setCell ⟨w.heap.size + 1, 27, none⟩ (.bool false))) (Iw.cs ⟨y.k, y.nm, Rw.zero, y.m, [], [], false, Rw.zero, y.q⟩) (show w.heap.size ≠ w.heap.size + 1 by omega)).trans ((box_other (w := wc) (P := w.heap.size + 1) (i := 27) (.bool false) (by omega)).trans HXc.out)))
              have HL7 := hid (setRow_below (setRow_below (below_set HLc.out (show w.heap.size ≤ w.heap.size + 1 by omega) 27 (.bool false)) (show w.heap.size ≤ w.heap.size + 1 by omega) (Iw.cs ⟨y.k, y.nm, Rw.zero, y.m, [], [], false, Rw.zero, y.q⟩)) (show w.heap.size ≤ w.heap.size + 1 by omega) (Iw.cs ⟨y.k, y.nm, Rw.zero, y.m, [], [], false, Rw.zero, Rw.zero⟩))
              go_upto_region 18 with (first | (refine Go.Proofs.YtfljcfdfgojdoaaGreatDoor.wpList_store_at rfl 33 (.tmp 69) (.tmp 66) rfl 9 info27 (w.heap.size + 1) 65 (Iw.cs ⟨y.k, y.nm, Rw.zero, y.m, [], [], false, y.l, y.q⟩) H27.out 28 (by rw [itC_size]; decide) reZ rfl rfl rfl rfl (Iw.cs ⟨y.k, y.nm, Rw.zero, y.m, [], [], false, Rw.zero, y.q⟩) (put_l0 ⟨y.k, y.nm, Rw.zero, y.m, [], [], false, y.l, y.q⟩) ?_) | (refine Go.Proofs.YtfljcfdfgojdoaaGreatDoor.wpList_store_at rfl 33 (.tmp 70) (.tmp 67) rfl 9 info27 (w.heap.size + 1) 65 (Iw.cs ⟨y.k, y.nm, Rw.zero, y.m, [], [], false, Rw.zero, y.q⟩) H28.out 37 (by rw [itC_size]; decide) reZ rfl rfl rfl rfl (Iw.cs ⟨y.k, y.nm, Rw.zero, y.m, [], [], false, Rw.zero, Rw.zero⟩) (put_q0 ⟨y.k, y.nm, Rw.zero, y.m, [], [], false, Rw.zero, y.q⟩) ?_))
              generalize ((wc.setCell ⟨w.heap.size + 1, 27, none⟩ (.bool false)).setRow (w.heap.size + 1) (Iw.cs ⟨y.k, y.nm, Rw.zero, y.m, [], [], false, Rw.zero, y.q⟩)).setRow (w.heap.size + 1) (Iw.cs ⟨y.k, y.nm, Rw.zero, y.m, [], [], false, Rw.zero, Rw.zero⟩) = W7 at *
              clear g27 z27 H27 H28 k1 k25 k26 k27
              obtain ⟨_, k1, k25, k26, k27⟩ := it_heads HX7.out
              go_wp2
              go_meet
              case rel => exact ⟨by rw [HV.out], by rw [HRI.out]; exact HR7.out, HL7.out⟩
            · have HV := hid (show okI x = false by rw [HOK.out, hbo, har]; first | rfl | simp)
              have HRI := hid ((restI_3 HK.out).trans (if_neg (by rw [har]; decide)))
              obtain ⟨_, k1, k25, k26, k27⟩ := it_heads HXc.out
              rw [har] at k27
              clear har
              go_wp2
              go_meet
              case rel => exact ⟨by rw [HV.out], by rw [HRI.out]; exact HRc.out, HLc.out⟩
    have HV := hid (show okI x = false from okI_no (by rw [← HY.out.2.k]; omega) (by rw [← HY.out.2.k]; omega) (by rw [← HY.out.2.k]; omega))
    have HRI := hid (show restI y = y from restI_no (by omega) (by omega) (by omega))
    have q1 : (y.k == 1) = false := by simpa using hk1
    have q2 : (y.k == 2) = false := by simpa using hk2
    have q3 : (y.k == 3) = false := by simpa using hk3
    have q4 : (y.k == 4) = false := by simpa using hk4
    clear hk1 hk2 hk3 hk4
    go_wp2
    go_meet
    case rel => exact ⟨by rw [HV.out], by rw [HRI.out]; exact HRS.out, HB.out⟩
  case rest =>
    obtain ⟨rfl, hrs, hlow⟩ := hcut
    have HR0 := hid hrs
    have HL0 := hid hlow
    have HI := hid (show itB x y = (okI x && emptyI (restI y)) from rfl)
    have HFR := hid HFT.out.rest
    clear hrs hlow HB HSZ HBK HRS HFT
    generalize restI y = z at *
    have HE := hid (fun W => show Calls Tryz.prog 84 #[.agg z.r.cs] W fun e w' => e = .returned (.bool (emptyRw z.r)) ∧ Below W.heap.size W w' from emptyRe_any z.r.k z.r.x z.r.s z.r.ad z.r.n z.r.cap z.r.mn z.r.mx HFR.out.r W)
    have HF := hid (fun W => show Calls Tryz.prog 84 #[.agg z.l.cs] W fun e w' => e = .returned (.bool (emptyRw z.l)) ∧ Below W.heap.size W w' from emptyRe_any z.l.k z.l.x z.l.s z.l.ad z.l.n z.l.cap z.l.mn z.l.mx HFR.out.l W)
    have HG := hid (fun W => show Calls Tryz.prog 84 #[.agg z.q.cs] W fun e w' => e = .returned (.bool (emptyRw z.q)) ∧ Below W.heap.size W w' from emptyRe_any z.q.k z.q.x z.q.s z.q.ad z.q.n z.q.cap z.q.mn z.q.mx HFR.out.q W)
    have HM := hid (fun W => show Calls Tryz.prog 85 #[.agg z.m.cs] W fun e w' => e = .returned (.bool (emptyMw z.m)) ∧ Below W.heap.size W w' from emptyMap_any z.m.k z.m.r z.m.o z.m.ad z.m.n z.m.cap z.m.mn z.m.mx HFR.out.m HFR.out.mr W)
    unfold emptyI at HI
    obtain ⟨_, k1, k25, k26, k27⟩ := it_heads HR0.out
    rcases Bool.eq_false_or_eq_true (okI x) with ho | ho
    · have HO := hid ho
      rw [ho]
      clear ho
      by_cases h1 : z.nm = []
      · have H1 := hid (show decide (z.nm = []) = true from decide_eq_true h1)
        have s1 : (⟨(z.nm).toArray⟩ : ByteArray) = ⟨#[]⟩ := str_same _ h1
        rw [s1] at k1
        have S1 := hid s1
        clear h1 s1
        rcases Bool.eq_false_or_eq_true (emptyRw z.r) with h2 | h2
        · have H2 := hid h2
          rw [h2] at HE
          clear h2
          rcases Bool.eq_false_or_eq_true (emptyMw z.m) with h3 | h3
          · have H3 := hid h3
            rw [h3] at HM
            clear h3
            by_cases h4 : z.o = []
            · have H4 := hid (show decide (z.o = []) = true from decide_eq_true h4)
              have s4 : (⟨(z.o).toArray⟩ : ByteArray) = ⟨#[]⟩ := str_same _ h4
              rw [s4] at k25
              have S4 := hid s4
              clear h4 s4
              by_cases h5 : z.b = []
              · have H5 := hid (show decide (z.b = []) = true from decide_eq_true h5)
                have s5 : (⟨(z.b).toArray⟩ : ByteArray) = ⟨#[]⟩ := str_same _ h5
                rw [s5] at k26
                have S5 := hid s5
                clear h5 s5
                rcases Bool.eq_false_or_eq_true z.ar with h6 | h6
                · have H6 := hid (show (!z.ar) = false by rw [h6]; rfl)
                  rw [h6] at k27
                  have S6 := hid h6
                  clear h6
                  have HV := hid (show itB x y = false by rw [HI.out, HO.out, H1.out, H2.out, H3.out, H4.out, H5.out, H6.out]; simp)
                  have tok1 : True := trivial
                  have tok2 : True := trivial
                  go_wp2_with (first | (with_reducible (show wpList _ _ _ (⟨some 90, Op.load 33 (Operand.tmp 89), _, _, _, _⟩ :: _) _ _); refine wpList_load_part 33 (.tmp 89) rfl (by kernel_rfl) (w.heap.size + 1) 2 rfl z.r.cs _ (it_ranges HR0.out).1 Tryz.underlying33 rfl 9 info27 rfl ?_) | (have _t := tok1; go_at_call 84; refine (HE.out wc).mono ?_; rintro e w1 ⟨rfl, hb1⟩; have HL1 := hid (HL0.out.trans (hb1.mono HL0.out.size)); have HR1 := hid ((hb1.block (w.heap.size + 1) (lt_of_heap HR0.out)).trans HR0.out); clear hb1 k1 k25 k26 k27 _t tok1; obtain ⟨_, k1, k25, k26, k27⟩ := it_heads HR1.out; rw [S4.out] at k25; rw [S5.out] at k26; rw [S6.out] at k27) | (with_reducible (show wpList _ _ _ (⟨some 95, Op.load 36 (Operand.tmp 94), _, _, _, _⟩ :: _) _ _); refine wpList_load_part 36 (.tmp 94) rfl (by kernel_rfl) (w.heap.size + 1) 11 rfl z.m.cs _ (it_ranges HR1.out).2.1 Tryz.underlying36 rfl 14 info44 rfl ?_) | (have _t := tok2; go_at_call 85; refine (HM.out w1).mono ?_; rintro e w2 ⟨rfl, hb2⟩; have HL2 := hid (HL1.out.trans (hb2.mono HL1.out.size)); have HR2 := hid ((hb2.block (w.heap.size + 1) (lt_of_heap HR1.out)).trans HR1.out); clear hb2 k1 k25 k26 k27 _t tok2; obtain ⟨_, k1, k25, k26, k27⟩ := it_heads HR2.out; rw [S4.out] at k25; rw [S5.out] at k26; rw [S6.out] at k27))
                  go_ret
                  exact ⟨bool_eq HV.out.symm, HL2.out⟩
                · have H6 := hid (show (!z.ar) = true by rw [h6]; rfl)
                  rw [h6] at k27
                  have S6 := hid h6
                  clear h6
                  rcases Bool.eq_false_or_eq_true (emptyRw z.l) with h7 | h7
                  · have H7 := hid h7
                    rw [h7] at HF
                    clear h7
                    rcases Bool.eq_false_or_eq_true (emptyRw z.q) with h8 | h8
                    · have H8 := hid h8
                      rw [h8] at HG
                      clear h8
                      have HV := hid (show itB x y = true by rw [HI.out, HO.out, H1.out, H2.out, H3.out, H4.out, H5.out, H6.out, H7.out, H8.out]; rfl)
                      have tok1 : True := trivial
                      have tok2 : True := trivial
                      have tok3 : True := trivial
                      have tok4 : True := trivial
                      go_wp2_with (first | (with_reducible (show wpList _ _ _ (⟨some 90, Op.load 33 (Operand.tmp 89), _, _, _, _⟩ :: _) _ _); refine wpList_load_part 33 (.tmp 89) rfl (by kernel_rfl) (w.heap.size + 1) 2 rfl z.r.cs _ (it_ranges HR0.out).1 Tryz.underlying33 rfl 9 info27 rfl ?_) | (have _t := tok1; go_at_call 84; refine (HE.out wc).mono ?_; rintro e w1 ⟨rfl, hb1⟩; have HL1 := hid (HL0.out.trans (hb1.mono HL0.out.size)); have HR1 := hid ((hb1.block (w.heap.size + 1) (lt_of_heap HR0.out)).trans HR0.out); clear hb1 k1 k25 k26 k27 _t tok1; obtain ⟨_, k1, k25, k26, k27⟩ := it_heads HR1.out; rw [S4.out] at k25; rw [S5.out] at k26; rw [S6.out] at k27) | (with_reducible (show wpList _ _ _ (⟨some 95, Op.load 36 (Operand.tmp 94), _, _, _, _⟩ :: _) _ _); refine wpList_load_part 36 (.tmp 94) rfl (by kernel_rfl) (w.heap.size + 1) 11 rfl z.m.cs _ (it_ranges HR1.out).2.1 Tryz.underlying36 rfl 14 info44 rfl ?_) | (have _t := tok2; go_at_call 85; refine (HM.out w1).mono ?_; rintro e w2 ⟨rfl, hb2⟩; have HL2 := hid (HL1.out.trans (hb2.mono HL1.out.size)); have HR2 := hid ((hb2.block (w.heap.size + 1) (lt_of_heap HR1.out)).trans HR1.out); clear hb2 k1 k25 k26 k27 _t tok2; obtain ⟨_, k1, k25, k26, k27⟩ := it_heads HR2.out; rw [S4.out] at k25; rw [S5.out] at k26; rw [S6.out] at k27) | (with_reducible (show wpList _ _ _ (⟨some 115, Op.load 33 (Operand.tmp 114), _, _, _, _⟩ :: _) _ _); refine wpList_load_part 33 (.tmp 114) rfl (by kernel_rfl) (w.heap.size + 1) 28 rfl z.l.cs _ (it_ranges HR2.out).2.2.1 Tryz.underlying33 rfl 9 info27 rfl ?_) | (have _t := tok3; go_at_call 84; refine (HF.out w2).mono ?_; rintro e w3 ⟨rfl, hb3⟩; have HL3 := hid (HL2.out.trans (hb3.mono HL2.out.size)); have HR3 := hid ((hb3.block (w.heap.size + 1) (lt_of_heap HR2.out)).trans HR2.out); clear hb3 k1 k25 k26 k27 _t tok3; obtain ⟨_, k1, k25, k26, k27⟩ := it_heads HR3.out; rw [S4.out] at k25; rw [S5.out] at k26; rw [S6.out] at k27) | (with_reducible (show wpList _ _ _ (⟨some 120, Op.load 33 (Operand.tmp 119), _, _, _, _⟩ :: _) _ _); refine wpList_load_part 33 (.tmp 119) rfl (by kernel_rfl) (w.heap.size + 1) 37 rfl z.q.cs _ (it_ranges HR3.out).2.2.2 Tryz.underlying33 rfl 9 info27 rfl ?_) | (have _t := tok4; go_at_call 84; refine (HG.out w3).mono ?_; rintro e w4 ⟨rfl, hb4⟩; have HL4 := hid (HL3.out.trans (hb4.mono HL3.out.size)); have HR4 := hid ((hb4.block (w.heap.size + 1) (lt_of_heap HR3.out)).trans HR3.out); clear hb4 k1 k25 k26 k27 _t tok4; obtain ⟨_, k1, k25, k26, k27⟩ := it_heads HR4.out; rw [S4.out] at k25; rw [S5.out] at k26; rw [S6.out] at k27))
                      go_ret
                      exact ⟨bool_eq HV.out.symm, HL4.out⟩
                    · have H8 := hid h8
                      rw [h8] at HG
                      clear h8
                      have HV := hid (show itB x y = false by rw [HI.out, HO.out, H1.out, H2.out, H3.out, H4.out, H5.out, H6.out, H7.out, H8.out]; simp)
                      have tok1 : True := trivial
                      have tok2 : True := trivial
                      have tok3 : True := trivial
                      have tok4 : True := trivial
                      go_wp2_with (first | (with_reducible (show wpList _ _ _ (⟨some 90, Op.load 33 (Operand.tmp 89), _, _, _, _⟩ :: _) _ _); refine wpList_load_part 33 (.tmp 89) rfl (by kernel_rfl) (w.heap.size + 1) 2 rfl z.r.cs _ (it_ranges HR0.out).1 Tryz.underlying33 rfl 9 info27 rfl ?_) | (have _t := tok1; go_at_call 84; refine (HE.out wc).mono ?_; rintro e w1 ⟨rfl, hb1⟩; have HL1 := hid (HL0.out.trans (hb1.mono HL0.out.size)); have HR1 := hid ((hb1.block (w.heap.size + 1) (lt_of_heap HR0.out)).trans HR0.out); clear hb1 k1 k25 k26 k27 _t tok1; obtain ⟨_, k1, k25, k26, k27⟩ := it_heads HR1.out; rw [S4.out] at k25; rw [S5.out] at k26; rw [S6.out] at k27) | (with_reducible (show wpList _ _ _ (⟨some 95, Op.load 36 (Operand.tmp 94), _, _, _, _⟩ :: _) _ _); refine wpList_load_part 36 (.tmp 94) rfl (by kernel_rfl) (w.heap.size + 1) 11 rfl z.m.cs _ (it_ranges HR1.out).2.1 Tryz.underlying36 rfl 14 info44 rfl ?_) | (have _t := tok2; go_at_call 85; refine (HM.out w1).mono ?_; rintro e w2 ⟨rfl, hb2⟩; have HL2 := hid (HL1.out.trans (hb2.mono HL1.out.size)); have HR2 := hid ((hb2.block (w.heap.size + 1) (lt_of_heap HR1.out)).trans HR1.out); clear hb2 k1 k25 k26 k27 _t tok2; obtain ⟨_, k1, k25, k26, k27⟩ := it_heads HR2.out; rw [S4.out] at k25; rw [S5.out] at k26; rw [S6.out] at k27) | (with_reducible (show wpList _ _ _ (⟨some 115, Op.load 33 (Operand.tmp 114), _, _, _, _⟩ :: _) _ _); refine wpList_load_part 33 (.tmp 114) rfl (by kernel_rfl) (w.heap.size + 1) 28 rfl z.l.cs _ (it_ranges HR2.out).2.2.1 Tryz.underlying33 rfl 9 info27 rfl ?_) | (have _t := tok3; go_at_call 84; refine (HF.out w2).mono ?_; rintro e w3 ⟨rfl, hb3⟩; have HL3 := hid (HL2.out.trans (hb3.mono HL2.out.size)); have HR3 := hid ((hb3.block (w.heap.size + 1) (lt_of_heap HR2.out)).trans HR2.out); clear hb3 k1 k25 k26 k27 _t tok3; obtain ⟨_, k1, k25, k26, k27⟩ := it_heads HR3.out; rw [S4.out] at k25; rw [S5.out] at k26; rw [S6.out] at k27) | (with_reducible (show wpList _ _ _ (⟨some 120, Op.load 33 (Operand.tmp 119), _, _, _, _⟩ :: _) _ _); refine wpList_load_part 33 (.tmp 119) rfl (by kernel_rfl) (w.heap.size + 1) 37 rfl z.q.cs _ (it_ranges HR3.out).2.2.2 Tryz.underlying33 rfl 9 info27 rfl ?_) | (have _t := tok4; go_at_call 84; refine (HG.out w3).mono ?_; rintro e w4 ⟨rfl, hb4⟩; have HL4 := hid (HL3.out.trans (hb4.mono HL3.out.size)); have HR4 := hid ((hb4.block (w.heap.size + 1) (lt_of_heap HR3.out)).trans HR3.out); clear hb4 k1 k25 k26 k27 _t tok4; obtain ⟨_, k1, k25, k26, k27⟩ := it_heads HR4.out; rw [S4.out] at k25; rw [S5.out] at k26; rw [S6.out] at k27))
                      go_ret
                      exact ⟨bool_eq HV.out.symm, HL4.out⟩
                  · have H7 := hid h7
                    rw [h7] at HF
                    clear h7
                    have HV := hid (show itB x y = false by rw [HI.out, HO.out, H1.out, H2.out, H3.out, H4.out, H5.out, H6.out, H7.out]; simp)
                    have tok1 : True := trivial
                    have tok2 : True := trivial
                    have tok3 : True := trivial
                    go_wp2_with (first | (with_reducible (show wpList _ _ _ (⟨some 90, Op.load 33 (Operand.tmp 89), _, _, _, _⟩ :: _) _ _); refine wpList_load_part 33 (.tmp 89) rfl (by kernel_rfl) (w.heap.size + 1) 2 rfl z.r.cs _ (it_ranges HR0.out).1 Tryz.underlying33 rfl 9 info27 rfl ?_) | (have _t := tok1; go_at_call 84; refine (HE.out wc).mono ?_; rintro e w1 ⟨rfl, hb1⟩; have HL1 := hid (HL0.out.trans (hb1.mono HL0.out.size)); have HR1 := hid ((hb1.block (w.heap.size + 1) (lt_of_heap HR0.out)).trans HR0.out); clear hb1 k1 k25 k26 k27 _t tok1; obtain ⟨_, k1, k25, k26, k27⟩ := it_heads HR1.out; rw [S4.out] at k25; rw [S5.out] at k26; rw [S6.out] at k27) | (with_reducible (show wpList _ _ _ (⟨some 95, Op.load 36 (Operand.tmp 94), _, _, _, _⟩ :: _) _ _); refine wpList_load_part 36 (.tmp 94) rfl (by kernel_rfl) (w.heap.size + 1) 11 rfl z.m.cs _ (it_ranges HR1.out).2.1 Tryz.underlying36 rfl 14 info44 rfl ?_) | (have _t := tok2; go_at_call 85; refine (HM.out w1).mono ?_; rintro e w2 ⟨rfl, hb2⟩; have HL2 := hid (HL1.out.trans (hb2.mono HL1.out.size)); have HR2 := hid ((hb2.block (w.heap.size + 1) (lt_of_heap HR1.out)).trans HR1.out); clear hb2 k1 k25 k26 k27 _t tok2; obtain ⟨_, k1, k25, k26, k27⟩ := it_heads HR2.out; rw [S4.out] at k25; rw [S5.out] at k26; rw [S6.out] at k27) | (with_reducible (show wpList _ _ _ (⟨some 115, Op.load 33 (Operand.tmp 114), _, _, _, _⟩ :: _) _ _); refine wpList_load_part 33 (.tmp 114) rfl (by kernel_rfl) (w.heap.size + 1) 28 rfl z.l.cs _ (it_ranges HR2.out).2.2.1 Tryz.underlying33 rfl 9 info27 rfl ?_) | (have _t := tok3; go_at_call 84; refine (HF.out w2).mono ?_; rintro e w3 ⟨rfl, hb3⟩; have HL3 := hid (HL2.out.trans (hb3.mono HL2.out.size)); have HR3 := hid ((hb3.block (w.heap.size + 1) (lt_of_heap HR2.out)).trans HR2.out); clear hb3 k1 k25 k26 k27 _t tok3; obtain ⟨_, k1, k25, k26, k27⟩ := it_heads HR3.out; rw [S4.out] at k25; rw [S5.out] at k26; rw [S6.out] at k27))
                    go_ret
                    exact ⟨bool_eq HV.out.symm, HL3.out⟩
              · have H5 := hid (show decide (z.b = []) = false from decide_eq_false h5)
                obtain ⟨_, s5⟩ := str_none h5
                clear h5
                have HV := hid (show itB x y = false by rw [HI.out, HO.out, H1.out, H2.out, H3.out, H4.out, H5.out]; simp)
                have tok1 : True := trivial
                have tok2 : True := trivial
                go_wp2_with (first | (with_reducible (show wpList _ _ _ (⟨some 90, Op.load 33 (Operand.tmp 89), _, _, _, _⟩ :: _) _ _); refine wpList_load_part 33 (.tmp 89) rfl (by kernel_rfl) (w.heap.size + 1) 2 rfl z.r.cs _ (it_ranges HR0.out).1 Tryz.underlying33 rfl 9 info27 rfl ?_) | (have _t := tok1; go_at_call 84; refine (HE.out wc).mono ?_; rintro e w1 ⟨rfl, hb1⟩; have HL1 := hid (HL0.out.trans (hb1.mono HL0.out.size)); have HR1 := hid ((hb1.block (w.heap.size + 1) (lt_of_heap HR0.out)).trans HR0.out); clear hb1 k1 k25 k26 k27 _t tok1; obtain ⟨_, k1, k25, k26, k27⟩ := it_heads HR1.out; rw [S4.out] at k25) | (with_reducible (show wpList _ _ _ (⟨some 95, Op.load 36 (Operand.tmp 94), _, _, _, _⟩ :: _) _ _); refine wpList_load_part 36 (.tmp 94) rfl (by kernel_rfl) (w.heap.size + 1) 11 rfl z.m.cs _ (it_ranges HR1.out).2.1 Tryz.underlying36 rfl 14 info44 rfl ?_) | (have _t := tok2; go_at_call 85; refine (HM.out w1).mono ?_; rintro e w2 ⟨rfl, hb2⟩; have HL2 := hid (HL1.out.trans (hb2.mono HL1.out.size)); have HR2 := hid ((hb2.block (w.heap.size + 1) (lt_of_heap HR1.out)).trans HR1.out); clear hb2 k1 k25 k26 k27 _t tok2; obtain ⟨_, k1, k25, k26, k27⟩ := it_heads HR2.out; rw [S4.out] at k25))
                go_ret
                exact ⟨bool_eq HV.out.symm, HL2.out⟩
            · have H4 := hid (show decide (z.o = []) = false from decide_eq_false h4)
              obtain ⟨_, s4⟩ := str_none h4
              clear h4
              have HV := hid (show itB x y = false by rw [HI.out, HO.out, H1.out, H2.out, H3.out, H4.out]; simp)
              have tok1 : True := trivial
              have tok2 : True := trivial
              go_wp2_with (first | (with_reducible (show wpList _ _ _ (⟨some 90, Op.load 33 (Operand.tmp 89), _, _, _, _⟩ :: _) _ _); refine wpList_load_part 33 (.tmp 89) rfl (by kernel_rfl) (w.heap.size + 1) 2 rfl z.r.cs _ (it_ranges HR0.out).1 Tryz.underlying33 rfl 9 info27 rfl ?_) | (have _t := tok1; go_at_call 84; refine (HE.out wc).mono ?_; rintro e w1 ⟨rfl, hb1⟩; have HL1 := hid (HL0.out.trans (hb1.mono HL0.out.size)); have HR1 := hid ((hb1.block (w.heap.size + 1) (lt_of_heap HR0.out)).trans HR0.out); clear hb1 k1 k25 k26 k27 _t tok1; obtain ⟨_, k1, k25, k26, k27⟩ := it_heads HR1.out) | (with_reducible (show wpList _ _ _ (⟨some 95, Op.load 36 (Operand.tmp 94), _, _, _, _⟩ :: _) _ _); refine wpList_load_part 36 (.tmp 94) rfl (by kernel_rfl) (w.heap.size + 1) 11 rfl z.m.cs _ (it_ranges HR1.out).2.1 Tryz.underlying36 rfl 14 info44 rfl ?_) | (have _t := tok2; go_at_call 85; refine (HM.out w1).mono ?_; rintro e w2 ⟨rfl, hb2⟩; have HL2 := hid (HL1.out.trans (hb2.mono HL1.out.size)); have HR2 := hid ((hb2.block (w.heap.size + 1) (lt_of_heap HR1.out)).trans HR1.out); clear hb2 k1 k25 k26 k27 _t tok2; obtain ⟨_, k1, k25, k26, k27⟩ := it_heads HR2.out))
              go_ret
              exact ⟨bool_eq HV.out.symm, HL2.out⟩
          · have H3 := hid h3
            rw [h3] at HM
            clear h3
            have HV := hid (show itB x y = false by rw [HI.out, HO.out, H1.out, H2.out, H3.out]; simp)
            have tok1 : True := trivial
            have tok2 : True := trivial
            go_wp2_with (first | (with_reducible (show wpList _ _ _ (⟨some 90, Op.load 33 (Operand.tmp 89), _, _, _, _⟩ :: _) _ _); refine wpList_load_part 33 (.tmp 89) rfl (by kernel_rfl) (w.heap.size + 1) 2 rfl z.r.cs _ (it_ranges HR0.out).1 Tryz.underlying33 rfl 9 info27 rfl ?_) | (have _t := tok1; go_at_call 84; refine (HE.out wc).mono ?_; rintro e w1 ⟨rfl, hb1⟩; have HL1 := hid (HL0.out.trans (hb1.mono HL0.out.size)); have HR1 := hid ((hb1.block (w.heap.size + 1) (lt_of_heap HR0.out)).trans HR0.out); clear hb1 k1 k25 k26 k27 _t tok1; obtain ⟨_, k1, k25, k26, k27⟩ := it_heads HR1.out) | (with_reducible (show wpList _ _ _ (⟨some 95, Op.load 36 (Operand.tmp 94), _, _, _, _⟩ :: _) _ _); refine wpList_load_part 36 (.tmp 94) rfl (by kernel_rfl) (w.heap.size + 1) 11 rfl z.m.cs _ (it_ranges HR1.out).2.1 Tryz.underlying36 rfl 14 info44 rfl ?_) | (have _t := tok2; go_at_call 85; refine (HM.out w1).mono ?_; rintro e w2 ⟨rfl, hb2⟩; have HL2 := hid (HL1.out.trans (hb2.mono HL1.out.size)); have HR2 := hid ((hb2.block (w.heap.size + 1) (lt_of_heap HR1.out)).trans HR1.out); clear hb2 k1 k25 k26 k27 _t tok2; obtain ⟨_, k1, k25, k26, k27⟩ := it_heads HR2.out))
            go_ret
            exact ⟨bool_eq HV.out.symm, HL2.out⟩
        · have H2 := hid h2
          rw [h2] at HE
          clear h2
          have HV := hid (show itB x y = false by rw [HI.out, HO.out, H1.out, H2.out]; simp)
          have tok1 : True := trivial
          go_wp2_with (first | (with_reducible (show wpList _ _ _ (⟨some 90, Op.load 33 (Operand.tmp 89), _, _, _, _⟩ :: _) _ _); refine wpList_load_part 33 (.tmp 89) rfl (by kernel_rfl) (w.heap.size + 1) 2 rfl z.r.cs _ (it_ranges HR0.out).1 Tryz.underlying33 rfl 9 info27 rfl ?_) | (have _t := tok1; go_at_call 84; refine (HE.out wc).mono ?_; rintro e w1 ⟨rfl, hb1⟩; have HL1 := hid (HL0.out.trans (hb1.mono HL0.out.size)); have HR1 := hid ((hb1.block (w.heap.size + 1) (lt_of_heap HR0.out)).trans HR0.out); clear hb1 k1 k25 k26 k27 _t tok1; obtain ⟨_, k1, k25, k26, k27⟩ := it_heads HR1.out))
          go_ret
          exact ⟨bool_eq HV.out.symm, HL1.out⟩
      · have H1 := hid (show decide (z.nm = []) = false from decide_eq_false h1)
        obtain ⟨_, s1⟩ := str_none h1
        clear h1
        have HV := hid (show itB x y = false by rw [HI.out, HO.out, H1.out]; simp)
        go_wp2
        go_ret
        exact ⟨bool_eq HV.out.symm, HL0.out⟩
    · have HV := hid (show itB x y = false by rw [HI.out, ho]; rfl)
      rw [ho]
      clear ho
      go_wp2
      go_ret
      exact ⟨bool_eq HV.out.symm, HL0.out⟩
end Go.Proofs.YtfljcfdfgojdoaaGreatDoor.Sh
