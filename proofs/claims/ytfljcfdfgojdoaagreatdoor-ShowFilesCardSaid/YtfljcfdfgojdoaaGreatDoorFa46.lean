/-
  writer.item writes a right item. (Printed by genIt.py.)
-/
import Derived.Test.YtfljcfdfgojdoaaGreatDoorFa26
import Derived.Test.YtfljcfdfgojdoaaGreatDoorFa19
import Derived.Test.YtfljcfdfgojdoaaGreatDoorFa16
namespace Go.Proofs.YtfljcfdfgojdoaaGreatDoor.Sh
open Go.RowKit Go.Lib Go.Proofs.YtfljcfdfgojdoaaGreatDoor

theorem add_str (a b : List B) (h : a.length + b.length ≤ 70368744177664) (W : World) : (Op.stringOp .add ⟨a.toArray⟩ ⟨b.toArray⟩).run Tryz.prog W = .ok (.string ⟨(a ++ b).toArray⟩) W := by
  have h1 : (⟨a.toArray⟩ : ByteArray).size = a.length := str_size _
  have h2 : (⟨b.toArray⟩ : ByteArray).size = b.length := str_size _
  rw [run_string_add_sum W _ _ (by omega), cat_str]
theorem add_cons (a b c : List B) (hc : a ++ b = c) (h : a.length + b.length ≤ 70368744177664) (W : World) : (Op.stringOp .add ⟨a.toArray⟩ ⟨b.toArray⟩).run Tryz.prog W = .ok (.string ⟨c.toArray⟩) W := by
  subst hc; exact add_str a b h W
theorem SW.eq {P : Nat} {w : World} {d m m' : Nat} {l l' : List B} (h : SW P w d m l) (hm : m = m') (hl : l = l') : SW P w d m' l' := by subst hm hl; exact h
theorem reD_zero : reD Re.zero = 0 := by rw [Re.zero, reD, partsD]; rfl
theorem mpD_zero : mpD Mp.zero = 0 := by rw [Mp.zero, mpD, mpartsD]
set_option maxRecDepth 100000 in
set_option maxHeartbeats 4000000 in
theorem item_def {P : Nat} {s : List B} {r : Re} {h : Nat} {y : Iw} {w : World} {m : Nat} {l : List B} (hr : OkRe h r) (hs : SeRe r) (hG : ItG (fun g => g < P) w ⟨1, s, r, Mp.zero, [], [], false, Re.zero, Re.zero⟩ y) (hW : SW P w 0 m l) (hm : m ≤ 1000000) (hD : itemD ⟨1, s, r, Mp.zero, [], [], false, Re.zero, Re.zero⟩ ≤ 1000000) (hL : l.length + (itemW setS ⟨1, s, r, Mp.zero, [], [], false, Re.zero, Re.zero⟩).length ≤ 1099511627776) :
    Calls Tryz.prog 40 #[ptrV P, .agg y.cs] w (WPost P w 0 (max m (itemD ⟨1, s, r, Mp.zero, [], [], false, Re.zero, Re.zero⟩)) (l ++ itemW setS ⟨1, s, r, Mp.zero, [], [], false, Re.zero, Re.zero⟩)) := by
  obtain ⟨yk, yn, yr, ym, yo, yb, ya, yl, yq⟩ := y
  obtain ⟨e1, e2, g1, g2, e3, e4, e5, g3, g4⟩ := hG
  dsimp only at e1 e2 e3 e4 e5 g1 g2 g3 g4
  subst yk yn yo yb ya
  have HWE := hid (show itemW setS ⟨1, s, r, Mp.zero, [], [], false, Re.zero, Re.zero⟩ = [100, 101, 102, 32] ++ s ++ [32, 61, 32] ++ reW setS r ++ [59, 10] from rfl)
  have HIE := hid (show itemD ⟨1, s, r, Mp.zero, [], [], false, Re.zero, Re.zero⟩ = reD r from by show max (reD r) (max (reD Re.zero) (max (reD Re.zero) (mpD Mp.zero))) = reD r; rw [reD_zero, mpD_zero]; omega)
  have HLD := hid (show m ≤ 1000000 ∧ reD r ≤ 1000000 from ⟨hm, by have := HIE.out; omega⟩)
  have HLN := hid (show l.length + (s.length + (reW setS r).length + 9) ≤ 1099511627776 from by rw [HWE.out] at hL; simp only [List.length_append, List.length_cons, List.length_nil] at hL; omega)
  have hadd1 := add_cons [100, 101, 102, 32] s (100 :: 101 :: 102 :: 32 :: s) rfl (by have := HLN.out; simp only [List.length_cons, List.length_nil]; omega)
  have hadd2 := add_cons (100 :: 101 :: 102 :: 32 :: s) [32, 61, 32] (100 :: 101 :: 102 :: 32 :: (s ++ [32, 61, 32])) rfl (by have := HLN.out; simp only [List.length_cons, List.length_nil]; omega)
  have HGS := hid (And.intro g1 (And.intro g2 (And.intro g3 g4)))
  have hPw := hW.lt
  have HU0 := hid ((Upd.refl P w).alloc (.cells (Iw.cs ⟨1, s, yr, ym, [], [], false, yl, yq⟩) 65))
  have HW0 := hid (hW.alloc (.cells (Iw.cs ⟨1, s, yr, ym, [], [], false, yl, yq⟩) 65))
  have hb0 : (w.alloc (.cells (Iw.cs ⟨1, s, yr, ym, [], [], false, yl, yq⟩) 65)).heap[w.heap.size]? = some (.cells (Iw.cs ⟨1, s, yr, ym, [], [], false, yl, yq⟩) 65 (0, 0)) := heap_alloc_new _ _
  have HBX := hid (show ∀ W : World, Upd P (w.alloc (.cells (Iw.cs ⟨1, s, yr, ym, [], [], false, yl, yq⟩) 65)) W → W.heap[w.heap.size]? = some (.cells (Iw.cs ⟨1, s, yr, ym, [], [], false, yl, yq⟩) 65 (0, 0)) from fun W hu => hu.row hb0 (by decide) (by omega))
  have HRF := hid (Upd.refl P (w.alloc (.cells (Iw.cs ⟨1, s, yr, ym, [], [], false, yl, yq⟩) 65)))
  have HML := hid (And.intro hm (And.intro hD hL))
  obtain ⟨c0, c1, c25, c26, c27⟩ := it_heads hb0
  clear g1 g2 g3 g4 hW hb0 hm hD hL
  go_enter Tryz.func40, Tryz.ntmps40
  go_upto_region 1 with fail
  generalize w.alloc (.cells (Iw.cs ⟨1, s, yr, ym, [], [], false, yl, yq⟩) 65) = W0 at *
  have tok1 : True := trivial
  have tok2 : True := trivial
  have tok3 : True := trivial
  go_wp2_with (first | (have _t := tok1; go_at_call 86; refine (put_any ⟨(100 :: 101 :: 102 :: 32 :: (s ++ [32, 61, 32])).toArray⟩ HW0.out (by rw [str_size]; have := HLN.out; simp only [List.length_append, List.length_cons, List.length_nil]; omega)).mono ?_; rintro e W1 ⟨rfl, hw1, hu1⟩; have HV1 := hid (HRF.out.trans hu1); have HW1 := hid hw1; clear hw1 hu1 _t tok1 c0 c1 c25 c26 c27; obtain ⟨c0, c1, c25, c26, c27⟩ := it_heads (HBX.out _ HV1.out)) | (with_reducible (show wpList _ _ _ (⟨some 16, Op.load 33 (Operand.tmp 15), _, _, _, _⟩ :: _) _ _); refine wpList_load_part 33 (.tmp 15) rfl (by kernel_rfl) w.heap.size 2 rfl yr.cs _ (it_ranges (HBX.out _ HV1.out)).1 Tryz.underlying33 rfl 9 info27 rfl ?_) | (have _t := tok2; go_at_call 50; refine (re_any hr hs (HGS.out.1.upd (HU0.out.trans HV1.out)) HW1.out (Nat.zero_le _) (by have := HLD.out; omega) (by have := HLD.out; omega) (by have := HLN.out; simp only [List.length_append, List.length_cons, List.length_nil]; omega)).mono ?_; rintro e W2 ⟨rfl, hw2, hu2⟩; have HV2 := hid (HV1.out.trans hu2); have HW2 := hid hw2; clear hw2 hu2 _t tok2 c0 c1 c25 c26 c27; obtain ⟨c0, c1, c25, c26, c27⟩ := it_heads (HBX.out _ HV2.out)) | (have _t := tok3; go_at_call 86; refine (put_any ⟨([59, 10]).toArray⟩ HW2.out (by rw [str_size]; have := HLN.out; simp only [List.length_append, List.length_cons, List.length_nil]; omega)).mono ?_; rintro e W3 ⟨rfl, hw3, hu3⟩; have HV3 := hid (HV2.out.trans hu3); have HW3 := hid hw3; clear hw3 hu3 _t tok3 c0 c1 c25 c26 c27; obtain ⟨c0, c1, c25, c26, c27⟩ := it_heads (HBX.out _ HV3.out)))
  go_end0
  refine ⟨rfl, HW3.out.eq ?_ ?_, HU0.out.trans HV3.out⟩
  · have := HIE.out; omega
  · rw [HWE.out]; simp only [List.append_assoc, List.cons_append, List.nil_append]
set_option maxRecDepth 100000 in
set_option maxHeartbeats 4000000 in
theorem item_token {P : Nat} {s : List B} {r : Re} {h : Nat} {y : Iw} {w : World} {m : Nat} {l : List B} (hr : OkRe h r) (hs : SeRe r) (hG : ItG (fun g => g < P) w ⟨4, s, r, Mp.zero, [], [], false, Re.zero, Re.zero⟩ y) (hW : SW P w 0 m l) (hm : m ≤ 1000000) (hD : itemD ⟨4, s, r, Mp.zero, [], [], false, Re.zero, Re.zero⟩ ≤ 1000000) (hL : l.length + (itemW setS ⟨4, s, r, Mp.zero, [], [], false, Re.zero, Re.zero⟩).length ≤ 1099511627776) :
    Calls Tryz.prog 40 #[ptrV P, .agg y.cs] w (WPost P w 0 (max m (itemD ⟨4, s, r, Mp.zero, [], [], false, Re.zero, Re.zero⟩)) (l ++ itemW setS ⟨4, s, r, Mp.zero, [], [], false, Re.zero, Re.zero⟩)) := by
  obtain ⟨yk, yn, yr, ym, yo, yb, ya, yl, yq⟩ := y
  obtain ⟨e1, e2, g1, g2, e3, e4, e5, g3, g4⟩ := hG
  dsimp only at e1 e2 e3 e4 e5 g1 g2 g3 g4
  subst yk yn yo yb ya
  have HWE := hid (show itemW setS ⟨4, s, r, Mp.zero, [], [], false, Re.zero, Re.zero⟩ = [116, 111, 107, 101, 110, 32] ++ s ++ [32, 61, 32] ++ reW setS r ++ [59, 10] from rfl)
  have HIE := hid (show itemD ⟨4, s, r, Mp.zero, [], [], false, Re.zero, Re.zero⟩ = reD r from by show max (reD r) (max (reD Re.zero) (max (reD Re.zero) (mpD Mp.zero))) = reD r; rw [reD_zero, mpD_zero]; omega)
  have HLD := hid (show m ≤ 1000000 ∧ reD r ≤ 1000000 from ⟨hm, by have := HIE.out; omega⟩)
  have HLN := hid (show l.length + (s.length + (reW setS r).length + 11) ≤ 1099511627776 from by rw [HWE.out] at hL; simp only [List.length_append, List.length_cons, List.length_nil] at hL; omega)
  have hadd1 := add_cons [116, 111, 107, 101, 110, 32] s (116 :: 111 :: 107 :: 101 :: 110 :: 32 :: s) rfl (by have := HLN.out; simp only [List.length_cons, List.length_nil]; omega)
  have hadd2 := add_cons (116 :: 111 :: 107 :: 101 :: 110 :: 32 :: s) [32, 61, 32] (116 :: 111 :: 107 :: 101 :: 110 :: 32 :: (s ++ [32, 61, 32])) rfl (by have := HLN.out; simp only [List.length_cons, List.length_nil]; omega)
  have HGS := hid (And.intro g1 (And.intro g2 (And.intro g3 g4)))
  have hPw := hW.lt
  have HU0 := hid ((Upd.refl P w).alloc (.cells (Iw.cs ⟨4, s, yr, ym, [], [], false, yl, yq⟩) 65))
  have HW0 := hid (hW.alloc (.cells (Iw.cs ⟨4, s, yr, ym, [], [], false, yl, yq⟩) 65))
  have hb0 : (w.alloc (.cells (Iw.cs ⟨4, s, yr, ym, [], [], false, yl, yq⟩) 65)).heap[w.heap.size]? = some (.cells (Iw.cs ⟨4, s, yr, ym, [], [], false, yl, yq⟩) 65 (0, 0)) := heap_alloc_new _ _
  have HBX := hid (show ∀ W : World, Upd P (w.alloc (.cells (Iw.cs ⟨4, s, yr, ym, [], [], false, yl, yq⟩) 65)) W → W.heap[w.heap.size]? = some (.cells (Iw.cs ⟨4, s, yr, ym, [], [], false, yl, yq⟩) 65 (0, 0)) from fun W hu => hu.row hb0 (by decide) (by omega))
  have HRF := hid (Upd.refl P (w.alloc (.cells (Iw.cs ⟨4, s, yr, ym, [], [], false, yl, yq⟩) 65)))
  have HML := hid (And.intro hm (And.intro hD hL))
  obtain ⟨c0, c1, c25, c26, c27⟩ := it_heads hb0
  clear g1 g2 g3 g4 hW hb0 hm hD hL
  go_enter Tryz.func40, Tryz.ntmps40
  go_upto_region 1 with fail
  generalize w.alloc (.cells (Iw.cs ⟨4, s, yr, ym, [], [], false, yl, yq⟩) 65) = W0 at *
  have tok1 : True := trivial
  have tok2 : True := trivial
  have tok3 : True := trivial
  go_wp2_with (first | (have _t := tok1; go_at_call 86; refine (put_any ⟨(116 :: 111 :: 107 :: 101 :: 110 :: 32 :: (s ++ [32, 61, 32])).toArray⟩ HW0.out (by rw [str_size]; have := HLN.out; simp only [List.length_append, List.length_cons, List.length_nil]; omega)).mono ?_; rintro e W1 ⟨rfl, hw1, hu1⟩; have HV1 := hid (HRF.out.trans hu1); have HW1 := hid hw1; clear hw1 hu1 _t tok1 c0 c1 c25 c26 c27; obtain ⟨c0, c1, c25, c26, c27⟩ := it_heads (HBX.out _ HV1.out)) | (with_reducible (show wpList _ _ _ (⟨some 40, Op.load 33 (Operand.tmp 39), _, _, _, _⟩ :: _) _ _); refine wpList_load_part 33 (.tmp 39) rfl (by kernel_rfl) w.heap.size 2 rfl yr.cs _ (it_ranges (HBX.out _ HV1.out)).1 Tryz.underlying33 rfl 9 info27 rfl ?_) | (have _t := tok2; go_at_call 50; refine (re_any hr hs (HGS.out.1.upd (HU0.out.trans HV1.out)) HW1.out (Nat.zero_le _) (by have := HLD.out; omega) (by have := HLD.out; omega) (by have := HLN.out; simp only [List.length_append, List.length_cons, List.length_nil]; omega)).mono ?_; rintro e W2 ⟨rfl, hw2, hu2⟩; have HV2 := hid (HV1.out.trans hu2); have HW2 := hid hw2; clear hw2 hu2 _t tok2 c0 c1 c25 c26 c27; obtain ⟨c0, c1, c25, c26, c27⟩ := it_heads (HBX.out _ HV2.out)) | (have _t := tok3; go_at_call 86; refine (put_any ⟨([59, 10]).toArray⟩ HW2.out (by rw [str_size]; have := HLN.out; simp only [List.length_append, List.length_cons, List.length_nil]; omega)).mono ?_; rintro e W3 ⟨rfl, hw3, hu3⟩; have HV3 := hid (HV2.out.trans hu3); have HW3 := hid hw3; clear hw3 hu3 _t tok3 c0 c1 c25 c26 c27; obtain ⟨c0, c1, c25, c26, c27⟩ := it_heads (HBX.out _ HV3.out)))
  go_end0
  refine ⟨rfl, HW3.out.eq ?_ ?_, HU0.out.trans HV3.out⟩
  · have := HIE.out; omega
  · rw [HWE.out]; simp only [List.append_assoc, List.cons_append, List.nil_append]
set_option maxRecDepth 100000 in
set_option maxHeartbeats 4000000 in
theorem item_map {P : Nat} {s : List B} {r : Mp} {h : Nat} {y : Iw} {w : World} {m : Nat} {l : List B} (hr : OkMp h r) (hs : SeMp r) (hG : ItG (fun g => g < P) w ⟨2, s, Re.zero, r, [], [], false, Re.zero, Re.zero⟩ y) (hW : SW P w 0 m l) (hm : m ≤ 1000000) (hD : itemD ⟨2, s, Re.zero, r, [], [], false, Re.zero, Re.zero⟩ ≤ 1000000) (hL : l.length + (itemW setS ⟨2, s, Re.zero, r, [], [], false, Re.zero, Re.zero⟩).length ≤ 1099511627776) :
    Calls Tryz.prog 40 #[ptrV P, .agg y.cs] w (WPost P w 0 (max m (itemD ⟨2, s, Re.zero, r, [], [], false, Re.zero, Re.zero⟩)) (l ++ itemW setS ⟨2, s, Re.zero, r, [], [], false, Re.zero, Re.zero⟩)) := by
  obtain ⟨yk, yn, yr, ym, yo, yb, ya, yl, yq⟩ := y
  obtain ⟨e1, e2, g1, g2, e3, e4, e5, g3, g4⟩ := hG
  dsimp only at e1 e2 e3 e4 e5 g1 g2 g3 g4
  subst yk yn yo yb ya
  have HWE := hid (show itemW setS ⟨2, s, Re.zero, r, [], [], false, Re.zero, Re.zero⟩ = [109, 97, 112, 32] ++ s ++ [32, 61, 32] ++ mpW setS r ++ [59, 10] from rfl)
  have HIE := hid (show itemD ⟨2, s, Re.zero, r, [], [], false, Re.zero, Re.zero⟩ = mpD r from by show max (reD Re.zero) (max (reD Re.zero) (max (reD Re.zero) (mpD r))) = mpD r; rw [reD_zero]; omega)
  have HLD := hid (show m ≤ 1000000 ∧ mpD r ≤ 1000000 from ⟨hm, by have := HIE.out; omega⟩)
  have HLN := hid (show l.length + (s.length + (mpW setS r).length + 9) ≤ 1099511627776 from by rw [HWE.out] at hL; simp only [List.length_append, List.length_cons, List.length_nil] at hL; omega)
  have hadd1 := add_cons [109, 97, 112, 32] s (109 :: 97 :: 112 :: 32 :: s) rfl (by have := HLN.out; simp only [List.length_cons, List.length_nil]; omega)
  have hadd2 := add_cons (109 :: 97 :: 112 :: 32 :: s) [32, 61, 32] (109 :: 97 :: 112 :: 32 :: (s ++ [32, 61, 32])) rfl (by have := HLN.out; simp only [List.length_cons, List.length_nil]; omega)
  have HGS := hid (And.intro g1 (And.intro g2 (And.intro g3 g4)))
  have hPw := hW.lt
  have HU0 := hid ((Upd.refl P w).alloc (.cells (Iw.cs ⟨2, s, yr, ym, [], [], false, yl, yq⟩) 65))
  have HW0 := hid (hW.alloc (.cells (Iw.cs ⟨2, s, yr, ym, [], [], false, yl, yq⟩) 65))
  have hb0 : (w.alloc (.cells (Iw.cs ⟨2, s, yr, ym, [], [], false, yl, yq⟩) 65)).heap[w.heap.size]? = some (.cells (Iw.cs ⟨2, s, yr, ym, [], [], false, yl, yq⟩) 65 (0, 0)) := heap_alloc_new _ _
  have HBX := hid (show ∀ W : World, Upd P (w.alloc (.cells (Iw.cs ⟨2, s, yr, ym, [], [], false, yl, yq⟩) 65)) W → W.heap[w.heap.size]? = some (.cells (Iw.cs ⟨2, s, yr, ym, [], [], false, yl, yq⟩) 65 (0, 0)) from fun W hu => hu.row hb0 (by decide) (by omega))
  have HRF := hid (Upd.refl P (w.alloc (.cells (Iw.cs ⟨2, s, yr, ym, [], [], false, yl, yq⟩) 65)))
  have HML := hid (And.intro hm (And.intro hD hL))
  obtain ⟨c0, c1, c25, c26, c27⟩ := it_heads hb0
  clear g1 g2 g3 g4 hW hb0 hm hD hL
  go_enter Tryz.func40, Tryz.ntmps40
  go_upto_region 1 with fail
  generalize w.alloc (.cells (Iw.cs ⟨2, s, yr, ym, [], [], false, yl, yq⟩) 65) = W0 at *
  have tok1 : True := trivial
  have tok2 : True := trivial
  have tok3 : True := trivial
  go_wp2_with (first | (have _t := tok1; go_at_call 86; refine (put_any ⟨(109 :: 97 :: 112 :: 32 :: (s ++ [32, 61, 32])).toArray⟩ HW0.out (by rw [str_size]; have := HLN.out; simp only [List.length_append, List.length_cons, List.length_nil]; omega)).mono ?_; rintro e W1 ⟨rfl, hw1, hu1⟩; have HV1 := hid (HRF.out.trans hu1); have HW1 := hid hw1; clear hw1 hu1 _t tok1 c0 c1 c25 c26 c27; obtain ⟨c0, c1, c25, c26, c27⟩ := it_heads (HBX.out _ HV1.out)) | (with_reducible (show wpList _ _ _ (⟨some 28, Op.load 36 (Operand.tmp 27), _, _, _, _⟩ :: _) _ _); refine wpList_load_part 36 (.tmp 27) rfl (by kernel_rfl) w.heap.size 11 rfl ym.cs _ (it_ranges (HBX.out _ HV1.out)).2.1 Tryz.underlying36 rfl 14 info44 rfl ?_) | (have _t := tok2; go_at_call 56; refine (mapping_any hr hs (HGS.out.2.1.upd (HU0.out.trans HV1.out)) HW1.out (Nat.zero_le _) (by have := HLD.out; omega) (by have := HLD.out; omega) (by have := HLN.out; simp only [List.length_append, List.length_cons, List.length_nil]; omega)).mono ?_; rintro e W2 ⟨rfl, hw2, hu2⟩; have HV2 := hid (HV1.out.trans hu2); have HW2 := hid hw2; clear hw2 hu2 _t tok2 c0 c1 c25 c26 c27; obtain ⟨c0, c1, c25, c26, c27⟩ := it_heads (HBX.out _ HV2.out)) | (have _t := tok3; go_at_call 86; refine (put_any ⟨([59, 10]).toArray⟩ HW2.out (by rw [str_size]; have := HLN.out; simp only [List.length_append, List.length_cons, List.length_nil]; omega)).mono ?_; rintro e W3 ⟨rfl, hw3, hu3⟩; have HV3 := hid (HV2.out.trans hu3); have HW3 := hid hw3; clear hw3 hu3 _t tok3 c0 c1 c25 c26 c27; obtain ⟨c0, c1, c25, c26, c27⟩ := it_heads (HBX.out _ HV3.out)))
  go_end0
  refine ⟨rfl, HW3.out.eq ?_ ?_, HU0.out.trans HV3.out⟩
  · have := HIE.out; omega
  · rw [HWE.out]; simp only [List.append_assoc, List.cons_append, List.nil_append]
set_option maxRecDepth 100000 in
set_option maxHeartbeats 4000000 in
theorem item_rule_out {P : Nat} {r : Re} {o : List B} {h : Nat} {y : Iw} {w : World} {m : Nat} {l : List B} (hr : OkRe h r) (hs : SeRe r) (ho : o.length ≤ 256) (hG : ItG (fun g => g < P) w ⟨3, [], r, Mp.zero, o, [], false, Re.zero, Re.zero⟩ y) (hW : SW P w 0 m l) (hm : m ≤ 1000000) (hD : itemD ⟨3, [], r, Mp.zero, o, [], false, Re.zero, Re.zero⟩ ≤ 1000000) (hL : l.length + (itemW setS ⟨3, [], r, Mp.zero, o, [], false, Re.zero, Re.zero⟩).length ≤ 1099511627776) :
    Calls Tryz.prog 40 #[ptrV P, .agg y.cs] w (WPost P w 0 (max m (itemD ⟨3, [], r, Mp.zero, o, [], false, Re.zero, Re.zero⟩)) (l ++ itemW setS ⟨3, [], r, Mp.zero, o, [], false, Re.zero, Re.zero⟩)) := by
  obtain ⟨yk, yn, yr, ym, yo, yb, ya, yl, yq⟩ := y
  obtain ⟨e1, e2, g1, g2, e3, e4, e5, g3, g4⟩ := hG
  dsimp only at e1 e2 e3 e4 e5 g1 g2 g3 g4
  subst yk yn yo yb ya
  have HWE := hid (show itemW setS ⟨3, [], r, Mp.zero, o, [], false, Re.zero, Re.zero⟩ = [114, 117, 108, 101, 32] ++ reW setS r ++ [32, 45, 62, 32] ++ (textW o) ++ [] ++ [59, 10] from by rfl)
  have HIE := hid (show itemD ⟨3, [], r, Mp.zero, o, [], false, Re.zero, Re.zero⟩ = reD r from by show max (reD r) (max (reD Re.zero) (max (reD Re.zero) (mpD Mp.zero))) = _; rw [reD_zero, mpD_zero]; omega)
  have HLD := hid (show m ≤ 1000000 ∧ reD r ≤ 1000000 from ⟨hm, by have := HIE.out; omega⟩)
  have HLN := hid (show l.length + ((textW o).length + (reW setS r).length) + 11 ≤ 1099511627776 from by rw [HWE.out] at hL; simp only [List.length_append, List.length_cons, List.length_nil] at hL; omega)
  have HTX := hid (text2_any ⟨o.toArray⟩ (by rw [str_size]; omega))
  have HGS := hid (And.intro g1 (And.intro g2 (And.intro g3 g4)))
  have hPw := hW.lt
  have HU0 := hid ((Upd.refl P w).alloc (.cells (Iw.cs ⟨3, [], yr, ym, o, [], false, yl, yq⟩) 65))
  have HW0 := hid (hW.alloc (.cells (Iw.cs ⟨3, [], yr, ym, o, [], false, yl, yq⟩) 65))
  have hb0 : (w.alloc (.cells (Iw.cs ⟨3, [], yr, ym, o, [], false, yl, yq⟩) 65)).heap[w.heap.size]? = some (.cells (Iw.cs ⟨3, [], yr, ym, o, [], false, yl, yq⟩) 65 (0, 0)) := heap_alloc_new _ _
  have HBX := hid (show ∀ W : World, Upd P (w.alloc (.cells (Iw.cs ⟨3, [], yr, ym, o, [], false, yl, yq⟩) 65)) W → W.heap[w.heap.size]? = some (.cells (Iw.cs ⟨3, [], yr, ym, o, [], false, yl, yq⟩) 65 (0, 0)) from fun W hu => hu.row hb0 (by decide) (by omega))
  have HRF := hid (Upd.refl P (w.alloc (.cells (Iw.cs ⟨3, [], yr, ym, o, [], false, yl, yq⟩) 65)))
  have HML := hid (And.intro hm (And.intro hD hL))
  obtain ⟨c0, c1, c25, c26, c27⟩ := it_heads hb0
  clear g1 g2 g3 g4 hW hb0 hm hD hL
  go_enter Tryz.func40, Tryz.ntmps40
  go_upto_region 1 with fail
  generalize w.alloc (.cells (Iw.cs ⟨3, [], yr, ym, o, [], false, yl, yq⟩) 65) = W0 at *
  have tok1 : True := trivial
  have tok2 : True := trivial
  have tok3 : True := trivial
  have tok4 : True := trivial
  have tok4t : True := trivial
  have tok5 : True := trivial
  go_wp2_with (first | (have _t := tok1; go_at_call 86; refine (put_any ⟨([114, 117, 108, 101, 32]).toArray⟩ HW0.out (by rw [str_size]; have := HLN.out; simp only [List.length_cons, List.length_nil]; omega)).mono ?_; rintro e W1 ⟨rfl, hw1, hu1⟩; have HV1 := hid (HRF.out.trans hu1); have HW1 := hid hw1; clear hw1 hu1 _t tok1 c0 c1 c25 c26 c27; obtain ⟨c0, c1, c25, c26, c27⟩ := it_heads (HBX.out _ HV1.out)) | (with_reducible (show wpList _ _ _ (⟨some 48, Op.load 33 (Operand.tmp 47), _, _, _, _⟩ :: _) _ _); refine wpList_load_part 33 (.tmp 47) rfl (by kernel_rfl) w.heap.size 2 rfl yr.cs _ (it_ranges (HBX.out _ HV1.out)).1 Tryz.underlying33 rfl 9 info27 rfl ?_) | (have _t := tok2; go_at_call 50; refine (re_any hr hs (HGS.out.1.upd (HU0.out.trans HV1.out)) HW1.out (Nat.zero_le _) (by have := HLD.out; omega) (by have := HLD.out; omega) (by have := HLN.out; simp only [List.length_append, List.length_cons, List.length_nil]; omega)).mono ?_; rintro e W2 ⟨rfl, hw2, hu2⟩; have HV2 := hid (HV1.out.trans hu2); have HW2 := hid hw2; clear hw2 hu2 _t tok2 c0 c1 c25 c26 c27; obtain ⟨c0, c1, c25, c26, c27⟩ := it_heads (HBX.out _ HV2.out)) | (have _t := tok3; go_at_call 86; refine (put_any ⟨([32, 45, 62, 32]).toArray⟩ HW2.out (by rw [str_size]; have := HLN.out; simp only [List.length_append, List.length_cons, List.length_nil]; omega)).mono ?_; rintro e W3 ⟨rfl, hw3, hu3⟩; have HV3 := hid (HV2.out.trans hu3); have HW3 := hid hw3; clear hw3 hu3 _t tok3 c0 c1 c25 c26 c27; obtain ⟨c0, c1, c25, c26, c27⟩ := it_heads (HBX.out _ HV3.out)) | (have _t := tok4t; go_at_call 87; refine (HTX.out _).mono ?_; rintro e V4 ⟨rfl, hb4⟩; have HQ4 := hid (Upd.below HV3.out hb4); have HWq4 := hid (HW3.out.below hb4); clear hb4 _t tok4t c0 c1 c25 c26 c27; obtain ⟨c0, c1, c25, c26, c27⟩ := it_heads (HBX.out _ HQ4.out)) | (have _t := tok4; go_at_call 86; refine (put_any ⟨(textW o).toArray⟩ HWq4.out (by rw [str_size]; have := HLN.out; simp only [List.length_append, List.length_cons, List.length_nil]; omega)).mono ?_; rintro e W4 ⟨rfl, hw4, hu4⟩; have HV4 := hid (HQ4.out.trans hu4); have HW4 := hid hw4; clear hw4 hu4 _t tok4 c0 c1 c25 c26 c27; obtain ⟨c0, c1, c25, c26, c27⟩ := it_heads (HBX.out _ HV4.out)) | (have _t := tok5; go_at_call 86; refine (put_any ⟨([59, 10]).toArray⟩ HW4.out (by rw [str_size]; have := HLN.out; simp only [List.length_append, List.length_cons, List.length_nil]; omega)).mono ?_; rintro e W5 ⟨rfl, hw5, hu5⟩; have HV5 := hid (HV4.out.trans hu5); have HW5 := hid hw5; clear hw5 hu5 _t tok5 c0 c1 c25 c26 c27; obtain ⟨c0, c1, c25, c26, c27⟩ := it_heads (HBX.out _ HV5.out)))
  go_end0
  refine ⟨rfl, HW5.out.eq ?_ ?_, HU0.out.trans HV5.out⟩
  · have := HIE.out; omega
  · rw [HWE.out]; simp only [List.append_assoc, List.cons_append, List.nil_append]
set_option maxRecDepth 100000 in
set_option maxHeartbeats 4000000 in
theorem item_rule_by {P : Nat} {r : Re} {b : List B} {h : Nat} {y : Iw} {w : World} {m : Nat} {l : List B} (hr : OkRe h r) (hs : SeRe r) (hb : b ≠ []) (hG : ItG (fun g => g < P) w ⟨3, [], r, Mp.zero, [], b, false, Re.zero, Re.zero⟩ y) (hW : SW P w 0 m l) (hm : m ≤ 1000000) (hD : itemD ⟨3, [], r, Mp.zero, [], b, false, Re.zero, Re.zero⟩ ≤ 1000000) (hL : l.length + (itemW setS ⟨3, [], r, Mp.zero, [], b, false, Re.zero, Re.zero⟩).length ≤ 1099511627776) :
    Calls Tryz.prog 40 #[ptrV P, .agg y.cs] w (WPost P w 0 (max m (itemD ⟨3, [], r, Mp.zero, [], b, false, Re.zero, Re.zero⟩)) (l ++ itemW setS ⟨3, [], r, Mp.zero, [], b, false, Re.zero, Re.zero⟩)) := by
  obtain ⟨yk, yn, yr, ym, yo, yb, ya, yl, yq⟩ := y
  obtain ⟨e1, e2, g1, g2, e3, e4, e5, g3, g4⟩ := hG
  dsimp only at e1 e2 e3 e4 e5 g1 g2 g3 g4
  subst yk yn yo yb ya
  have HWE := hid (show itemW setS ⟨3, [], r, Mp.zero, [], b, false, Re.zero, Re.zero⟩ = [114, 117, 108, 101, 32] ++ reW setS r ++ [32, 45, 62, 32] ++ (b) ++ [] ++ [59, 10] from by show [114, 117, 108, 101, 32] ++ reW setS r ++ [32, 45, 62, 32] ++ (if b = [] then textW [] else b) ++ [] ++ [59, 10] = _; rw [if_neg hb])
  have HIE := hid (show itemD ⟨3, [], r, Mp.zero, [], b, false, Re.zero, Re.zero⟩ = reD r from by show max (reD r) (max (reD Re.zero) (max (reD Re.zero) (mpD Mp.zero))) = _; rw [reD_zero, mpD_zero]; omega)
  have HLD := hid (show m ≤ 1000000 ∧ reD r ≤ 1000000 from ⟨hm, by have := HIE.out; omega⟩)
  have HLN := hid (show l.length + ((b).length + (reW setS r).length) + 11 ≤ 1099511627776 from by rw [HWE.out] at hL; simp only [List.length_append, List.length_cons, List.length_nil] at hL; omega)
  obtain ⟨hb1, hb2⟩ := str_none hb
  have sbe : (!b.isEmpty) = true := by cases hq : b with | nil => exact absurd hq hb | cons _ _ => rfl
  have HGS := hid (And.intro g1 (And.intro g2 (And.intro g3 g4)))
  have hPw := hW.lt
  have HU0 := hid ((Upd.refl P w).alloc (.cells (Iw.cs ⟨3, [], yr, ym, [], b, false, yl, yq⟩) 65))
  have HW0 := hid (hW.alloc (.cells (Iw.cs ⟨3, [], yr, ym, [], b, false, yl, yq⟩) 65))
  have hb0 : (w.alloc (.cells (Iw.cs ⟨3, [], yr, ym, [], b, false, yl, yq⟩) 65)).heap[w.heap.size]? = some (.cells (Iw.cs ⟨3, [], yr, ym, [], b, false, yl, yq⟩) 65 (0, 0)) := heap_alloc_new _ _
  have HBX := hid (show ∀ W : World, Upd P (w.alloc (.cells (Iw.cs ⟨3, [], yr, ym, [], b, false, yl, yq⟩) 65)) W → W.heap[w.heap.size]? = some (.cells (Iw.cs ⟨3, [], yr, ym, [], b, false, yl, yq⟩) 65 (0, 0)) from fun W hu => hu.row hb0 (by decide) (by omega))
  have HRF := hid (Upd.refl P (w.alloc (.cells (Iw.cs ⟨3, [], yr, ym, [], b, false, yl, yq⟩) 65)))
  have HML := hid (And.intro hm (And.intro hD hL))
  obtain ⟨c0, c1, c25, c26, c27⟩ := it_heads hb0
  clear g1 g2 g3 g4 hW hb0 hm hD hL
  go_enter Tryz.func40, Tryz.ntmps40
  go_upto_region 1 with fail
  generalize w.alloc (.cells (Iw.cs ⟨3, [], yr, ym, [], b, false, yl, yq⟩) 65) = W0 at *
  have tok1 : True := trivial
  have tok2 : True := trivial
  have tok3 : True := trivial
  have tok4 : True := trivial
  have tok5 : True := trivial
  go_wp2_with (first | (have _t := tok1; go_at_call 86; refine (put_any ⟨([114, 117, 108, 101, 32]).toArray⟩ HW0.out (by rw [str_size]; have := HLN.out; simp only [List.length_cons, List.length_nil]; omega)).mono ?_; rintro e W1 ⟨rfl, hw1, hu1⟩; have HV1 := hid (HRF.out.trans hu1); have HW1 := hid hw1; clear hw1 hu1 _t tok1 c0 c1 c25 c26 c27; obtain ⟨c0, c1, c25, c26, c27⟩ := it_heads (HBX.out _ HV1.out)) | (with_reducible (show wpList _ _ _ (⟨some 48, Op.load 33 (Operand.tmp 47), _, _, _, _⟩ :: _) _ _); refine wpList_load_part 33 (.tmp 47) rfl (by kernel_rfl) w.heap.size 2 rfl yr.cs _ (it_ranges (HBX.out _ HV1.out)).1 Tryz.underlying33 rfl 9 info27 rfl ?_) | (have _t := tok2; go_at_call 50; refine (re_any hr hs (HGS.out.1.upd (HU0.out.trans HV1.out)) HW1.out (Nat.zero_le _) (by have := HLD.out; omega) (by have := HLD.out; omega) (by have := HLN.out; simp only [List.length_append, List.length_cons, List.length_nil]; omega)).mono ?_; rintro e W2 ⟨rfl, hw2, hu2⟩; have HV2 := hid (HV1.out.trans hu2); have HW2 := hid hw2; clear hw2 hu2 _t tok2 c0 c1 c25 c26 c27; obtain ⟨c0, c1, c25, c26, c27⟩ := it_heads (HBX.out _ HV2.out)) | (have _t := tok3; go_at_call 86; refine (put_any ⟨([32, 45, 62, 32]).toArray⟩ HW2.out (by rw [str_size]; have := HLN.out; simp only [List.length_append, List.length_cons, List.length_nil]; omega)).mono ?_; rintro e W3 ⟨rfl, hw3, hu3⟩; have HV3 := hid (HV2.out.trans hu3); have HW3 := hid hw3; clear hw3 hu3 _t tok3 c0 c1 c25 c26 c27; obtain ⟨c0, c1, c25, c26, c27⟩ := it_heads (HBX.out _ HV3.out)) | (have _t := tok4; go_at_call 86; refine (put_any ⟨(b).toArray⟩ HW3.out (by rw [str_size]; have := HLN.out; simp only [List.length_append, List.length_cons, List.length_nil]; omega)).mono ?_; rintro e W4 ⟨rfl, hw4, hu4⟩; have HV4 := hid (HV3.out.trans hu4); have HW4 := hid hw4; clear hw4 hu4 _t tok4 c0 c1 c25 c26 c27; obtain ⟨c0, c1, c25, c26, c27⟩ := it_heads (HBX.out _ HV4.out)) | (have _t := tok5; go_at_call 86; refine (put_any ⟨([59, 10]).toArray⟩ HW4.out (by rw [str_size]; have := HLN.out; simp only [List.length_append, List.length_cons, List.length_nil]; omega)).mono ?_; rintro e W5 ⟨rfl, hw5, hu5⟩; have HV5 := hid (HV4.out.trans hu5); have HW5 := hid hw5; clear hw5 hu5 _t tok5 c0 c1 c25 c26 c27; obtain ⟨c0, c1, c25, c26, c27⟩ := it_heads (HBX.out _ HV5.out)))
  go_end0
  refine ⟨rfl, HW5.out.eq ?_ ?_, HU0.out.trans HV5.out⟩
  · have := HIE.out; omega
  · rw [HWE.out]; simp only [List.append_assoc, List.cons_append, List.nil_append]
set_option maxRecDepth 100000 in
set_option maxHeartbeats 4000000 in
theorem item_rule_out_around {P : Nat} {r q1 q2 : Re} {o : List B} {h : Nat} {y : Iw} {w : World} {m : Nat} {l : List B} (hr : OkRe h r) (hs : SeRe r) (ho : o.length ≤ 256) (hr1 : OkRe h q1) (hs1 : SeRe q1) (hr2 : OkRe h q2) (hs2 : SeRe q2) (hG : ItG (fun g => g < P) w ⟨3, [], r, Mp.zero, o, [], true, q1, q2⟩ y) (hW : SW P w 0 m l) (hm : m ≤ 1000000) (hD : itemD ⟨3, [], r, Mp.zero, o, [], true, q1, q2⟩ ≤ 1000000) (hL : l.length + (itemW setS ⟨3, [], r, Mp.zero, o, [], true, q1, q2⟩).length ≤ 1099511627776) :
    Calls Tryz.prog 40 #[ptrV P, .agg y.cs] w (WPost P w 0 (max m (itemD ⟨3, [], r, Mp.zero, o, [], true, q1, q2⟩)) (l ++ itemW setS ⟨3, [], r, Mp.zero, o, [], true, q1, q2⟩)) := by
  obtain ⟨yk, yn, yr, ym, yo, yb, ya, yl, yq⟩ := y
  obtain ⟨e1, e2, g1, g2, e3, e4, e5, g3, g4⟩ := hG
  dsimp only at e1 e2 e3 e4 e5 g1 g2 g3 g4
  subst yk yn yo yb ya
  have HWE := hid (show itemW setS ⟨3, [], r, Mp.zero, o, [], true, q1, q2⟩ = [114, 117, 108, 101, 32] ++ reW setS r ++ [32, 45, 62, 32] ++ (textW o) ++ ([32, 47, 32] ++ reW setS q1 ++ [32, 95, 32] ++ reW setS q2) ++ [59, 10] from by rfl)
  have HIE := hid (show itemD ⟨3, [], r, Mp.zero, o, [], true, q1, q2⟩ = max (reD r) (max (reD q1) (reD q2)) from by show max (reD r) (max (reD q1) (max (reD q2) (mpD Mp.zero))) = _; rw [mpD_zero]; omega)
  have HLD := hid (show m ≤ 1000000 ∧ reD r ≤ 1000000 ∧ reD q1 ≤ 1000000 ∧ reD q2 ≤ 1000000 from ⟨hm, by have := HIE.out; omega, by have := HIE.out; omega, by have := HIE.out; omega⟩)
  have HLN := hid (show l.length + ((textW o).length + (reW setS r).length + (reW setS q1).length + (reW setS q2).length) + 17 ≤ 1099511627776 from by rw [HWE.out] at hL; simp only [List.length_append, List.length_cons, List.length_nil] at hL; omega)
  have HTX := hid (text2_any ⟨o.toArray⟩ (by rw [str_size]; omega))
  have HGS := hid (And.intro g1 (And.intro g2 (And.intro g3 g4)))
  have hPw := hW.lt
  have HU0 := hid ((Upd.refl P w).alloc (.cells (Iw.cs ⟨3, [], yr, ym, o, [], true, yl, yq⟩) 65))
  have HW0 := hid (hW.alloc (.cells (Iw.cs ⟨3, [], yr, ym, o, [], true, yl, yq⟩) 65))
  have hb0 : (w.alloc (.cells (Iw.cs ⟨3, [], yr, ym, o, [], true, yl, yq⟩) 65)).heap[w.heap.size]? = some (.cells (Iw.cs ⟨3, [], yr, ym, o, [], true, yl, yq⟩) 65 (0, 0)) := heap_alloc_new _ _
  have HBX := hid (show ∀ W : World, Upd P (w.alloc (.cells (Iw.cs ⟨3, [], yr, ym, o, [], true, yl, yq⟩) 65)) W → W.heap[w.heap.size]? = some (.cells (Iw.cs ⟨3, [], yr, ym, o, [], true, yl, yq⟩) 65 (0, 0)) from fun W hu => hu.row hb0 (by decide) (by omega))
  have HRF := hid (Upd.refl P (w.alloc (.cells (Iw.cs ⟨3, [], yr, ym, o, [], true, yl, yq⟩) 65)))
  have HML := hid (And.intro hm (And.intro hD hL))
  obtain ⟨c0, c1, c25, c26, c27⟩ := it_heads hb0
  clear g1 g2 g3 g4 hW hb0 hm hD hL
  go_enter Tryz.func40, Tryz.ntmps40
  go_upto_region 1 with fail
  generalize w.alloc (.cells (Iw.cs ⟨3, [], yr, ym, o, [], true, yl, yq⟩) 65) = W0 at *
  have tok1 : True := trivial
  have tok2 : True := trivial
  have tok3 : True := trivial
  have tok4 : True := trivial
  have tok4t : True := trivial
  have tok5 : True := trivial
  have tok6 : True := trivial
  have tok7 : True := trivial
  have tok8 : True := trivial
  have tok9 : True := trivial
  go_wp2_with (first | (have _t := tok1; go_at_call 86; refine (put_any ⟨([114, 117, 108, 101, 32]).toArray⟩ HW0.out (by rw [str_size]; have := HLN.out; simp only [List.length_cons, List.length_nil]; omega)).mono ?_; rintro e W1 ⟨rfl, hw1, hu1⟩; have HV1 := hid (HRF.out.trans hu1); have HW1 := hid hw1; clear hw1 hu1 _t tok1 c0 c1 c25 c26 c27; obtain ⟨c0, c1, c25, c26, c27⟩ := it_heads (HBX.out _ HV1.out)) | (with_reducible (show wpList _ _ _ (⟨some 48, Op.load 33 (Operand.tmp 47), _, _, _, _⟩ :: _) _ _); refine wpList_load_part 33 (.tmp 47) rfl (by kernel_rfl) w.heap.size 2 rfl yr.cs _ (it_ranges (HBX.out _ HV1.out)).1 Tryz.underlying33 rfl 9 info27 rfl ?_) | (have _t := tok2; go_at_call 50; refine (re_any hr hs (HGS.out.1.upd (HU0.out.trans HV1.out)) HW1.out (Nat.zero_le _) (by have := HLD.out; omega) (by have := HLD.out; omega) (by have := HLN.out; simp only [List.length_append, List.length_cons, List.length_nil]; omega)).mono ?_; rintro e W2 ⟨rfl, hw2, hu2⟩; have HV2 := hid (HV1.out.trans hu2); have HW2 := hid hw2; clear hw2 hu2 _t tok2 c0 c1 c25 c26 c27; obtain ⟨c0, c1, c25, c26, c27⟩ := it_heads (HBX.out _ HV2.out)) | (have _t := tok3; go_at_call 86; refine (put_any ⟨([32, 45, 62, 32]).toArray⟩ HW2.out (by rw [str_size]; have := HLN.out; simp only [List.length_append, List.length_cons, List.length_nil]; omega)).mono ?_; rintro e W3 ⟨rfl, hw3, hu3⟩; have HV3 := hid (HV2.out.trans hu3); have HW3 := hid hw3; clear hw3 hu3 _t tok3 c0 c1 c25 c26 c27; obtain ⟨c0, c1, c25, c26, c27⟩ := it_heads (HBX.out _ HV3.out)) | (have _t := tok4t; go_at_call 87; refine (HTX.out _).mono ?_; rintro e V4 ⟨rfl, hb4⟩; have HQ4 := hid (Upd.below HV3.out hb4); have HWq4 := hid (HW3.out.below hb4); clear hb4 _t tok4t c0 c1 c25 c26 c27; obtain ⟨c0, c1, c25, c26, c27⟩ := it_heads (HBX.out _ HQ4.out)) | (have _t := tok4; go_at_call 86; refine (put_any ⟨(textW o).toArray⟩ HWq4.out (by rw [str_size]; have := HLN.out; simp only [List.length_append, List.length_cons, List.length_nil]; omega)).mono ?_; rintro e W4 ⟨rfl, hw4, hu4⟩; have HV4 := hid (HQ4.out.trans hu4); have HW4 := hid hw4; clear hw4 hu4 _t tok4 c0 c1 c25 c26 c27; obtain ⟨c0, c1, c25, c26, c27⟩ := it_heads (HBX.out _ HV4.out)) | (have _t := tok5; go_at_call 86; refine (put_any ⟨([32, 47, 32]).toArray⟩ HW4.out (by rw [str_size]; have := HLN.out; simp only [List.length_append, List.length_cons, List.length_nil]; omega)).mono ?_; rintro e W5 ⟨rfl, hw5, hu5⟩; have HV5 := hid (HV4.out.trans hu5); have HW5 := hid hw5; clear hw5 hu5 _t tok5 c0 c1 c25 c26 c27; obtain ⟨c0, c1, c25, c26, c27⟩ := it_heads (HBX.out _ HV5.out)) | (with_reducible (show wpList _ _ _ (⟨some 70, Op.load 33 (Operand.tmp 69), _, _, _, _⟩ :: _) _ _); refine wpList_load_part 33 (.tmp 69) rfl (by kernel_rfl) w.heap.size 28 rfl yl.cs _ (it_ranges (HBX.out _ HV5.out)).2.2.1 Tryz.underlying33 rfl 9 info27 rfl ?_) | (have _t := tok6; go_at_call 50; refine (re_any hr1 hs1 (HGS.out.2.2.1.upd (HU0.out.trans HV5.out)) HW5.out (Nat.zero_le _) (by have := HLD.out; omega) (by have := HLD.out; omega) (by have := HLN.out; simp only [List.length_append, List.length_cons, List.length_nil]; omega)).mono ?_; rintro e W6 ⟨rfl, hw6, hu6⟩; have HV6 := hid (HV5.out.trans hu6); have HW6 := hid hw6; clear hw6 hu6 _t tok6 c0 c1 c25 c26 c27; obtain ⟨c0, c1, c25, c26, c27⟩ := it_heads (HBX.out _ HV6.out)) | (have _t := tok7; go_at_call 86; refine (put_any ⟨([32, 95, 32]).toArray⟩ HW6.out (by rw [str_size]; have := HLN.out; simp only [List.length_append, List.length_cons, List.length_nil]; omega)).mono ?_; rintro e W7 ⟨rfl, hw7, hu7⟩; have HV7 := hid (HV6.out.trans hu7); have HW7 := hid hw7; clear hw7 hu7 _t tok7 c0 c1 c25 c26 c27; obtain ⟨c0, c1, c25, c26, c27⟩ := it_heads (HBX.out _ HV7.out)) | (with_reducible (show wpList _ _ _ (⟨some 76, Op.load 33 (Operand.tmp 75), _, _, _, _⟩ :: _) _ _); refine wpList_load_part 33 (.tmp 75) rfl (by kernel_rfl) w.heap.size 37 rfl yq.cs _ (it_ranges (HBX.out _ HV7.out)).2.2.2 Tryz.underlying33 rfl 9 info27 rfl ?_) | (have _t := tok8; go_at_call 50; refine (re_any hr2 hs2 (HGS.out.2.2.2.upd (HU0.out.trans HV7.out)) HW7.out (Nat.zero_le _) (by have := HLD.out; omega) (by have := HLD.out; omega) (by have := HLN.out; simp only [List.length_append, List.length_cons, List.length_nil]; omega)).mono ?_; rintro e W8 ⟨rfl, hw8, hu8⟩; have HV8 := hid (HV7.out.trans hu8); have HW8 := hid hw8; clear hw8 hu8 _t tok8 c0 c1 c25 c26 c27; obtain ⟨c0, c1, c25, c26, c27⟩ := it_heads (HBX.out _ HV8.out)) | (have _t := tok9; go_at_call 86; refine (put_any ⟨([59, 10]).toArray⟩ HW8.out (by rw [str_size]; have := HLN.out; simp only [List.length_append, List.length_cons, List.length_nil]; omega)).mono ?_; rintro e W9 ⟨rfl, hw9, hu9⟩; have HV9 := hid (HV8.out.trans hu9); have HW9 := hid hw9; clear hw9 hu9 _t tok9 c0 c1 c25 c26 c27; obtain ⟨c0, c1, c25, c26, c27⟩ := it_heads (HBX.out _ HV9.out)))
  go_end0
  refine ⟨rfl, HW9.out.eq ?_ ?_, HU0.out.trans HV9.out⟩
  · have := HIE.out; omega
  · rw [HWE.out]; simp only [List.append_assoc, List.cons_append, List.nil_append]
set_option maxRecDepth 100000 in
set_option maxHeartbeats 4000000 in
theorem item_rule_by_around {P : Nat} {r q1 q2 : Re} {b : List B} {h : Nat} {y : Iw} {w : World} {m : Nat} {l : List B} (hr : OkRe h r) (hs : SeRe r) (hb : b ≠ []) (hr1 : OkRe h q1) (hs1 : SeRe q1) (hr2 : OkRe h q2) (hs2 : SeRe q2) (hG : ItG (fun g => g < P) w ⟨3, [], r, Mp.zero, [], b, true, q1, q2⟩ y) (hW : SW P w 0 m l) (hm : m ≤ 1000000) (hD : itemD ⟨3, [], r, Mp.zero, [], b, true, q1, q2⟩ ≤ 1000000) (hL : l.length + (itemW setS ⟨3, [], r, Mp.zero, [], b, true, q1, q2⟩).length ≤ 1099511627776) :
    Calls Tryz.prog 40 #[ptrV P, .agg y.cs] w (WPost P w 0 (max m (itemD ⟨3, [], r, Mp.zero, [], b, true, q1, q2⟩)) (l ++ itemW setS ⟨3, [], r, Mp.zero, [], b, true, q1, q2⟩)) := by
  obtain ⟨yk, yn, yr, ym, yo, yb, ya, yl, yq⟩ := y
  obtain ⟨e1, e2, g1, g2, e3, e4, e5, g3, g4⟩ := hG
  dsimp only at e1 e2 e3 e4 e5 g1 g2 g3 g4
  subst yk yn yo yb ya
  have HWE := hid (show itemW setS ⟨3, [], r, Mp.zero, [], b, true, q1, q2⟩ = [114, 117, 108, 101, 32] ++ reW setS r ++ [32, 45, 62, 32] ++ (b) ++ ([32, 47, 32] ++ reW setS q1 ++ [32, 95, 32] ++ reW setS q2) ++ [59, 10] from by show [114, 117, 108, 101, 32] ++ reW setS r ++ [32, 45, 62, 32] ++ (if b = [] then textW [] else b) ++ ([32, 47, 32] ++ reW setS q1 ++ [32, 95, 32] ++ reW setS q2) ++ [59, 10] = _; rw [if_neg hb])
  have HIE := hid (show itemD ⟨3, [], r, Mp.zero, [], b, true, q1, q2⟩ = max (reD r) (max (reD q1) (reD q2)) from by show max (reD r) (max (reD q1) (max (reD q2) (mpD Mp.zero))) = _; rw [mpD_zero]; omega)
  have HLD := hid (show m ≤ 1000000 ∧ reD r ≤ 1000000 ∧ reD q1 ≤ 1000000 ∧ reD q2 ≤ 1000000 from ⟨hm, by have := HIE.out; omega, by have := HIE.out; omega, by have := HIE.out; omega⟩)
  have HLN := hid (show l.length + ((b).length + (reW setS r).length + (reW setS q1).length + (reW setS q2).length) + 17 ≤ 1099511627776 from by rw [HWE.out] at hL; simp only [List.length_append, List.length_cons, List.length_nil] at hL; omega)
  obtain ⟨hb1, hb2⟩ := str_none hb
  have sbe : (!b.isEmpty) = true := by cases hq : b with | nil => exact absurd hq hb | cons _ _ => rfl
  have HGS := hid (And.intro g1 (And.intro g2 (And.intro g3 g4)))
  have hPw := hW.lt
  have HU0 := hid ((Upd.refl P w).alloc (.cells (Iw.cs ⟨3, [], yr, ym, [], b, true, yl, yq⟩) 65))
  have HW0 := hid (hW.alloc (.cells (Iw.cs ⟨3, [], yr, ym, [], b, true, yl, yq⟩) 65))
  have hb0 : (w.alloc (.cells (Iw.cs ⟨3, [], yr, ym, [], b, true, yl, yq⟩) 65)).heap[w.heap.size]? = some (.cells (Iw.cs ⟨3, [], yr, ym, [], b, true, yl, yq⟩) 65 (0, 0)) := heap_alloc_new _ _
  have HBX := hid (show ∀ W : World, Upd P (w.alloc (.cells (Iw.cs ⟨3, [], yr, ym, [], b, true, yl, yq⟩) 65)) W → W.heap[w.heap.size]? = some (.cells (Iw.cs ⟨3, [], yr, ym, [], b, true, yl, yq⟩) 65 (0, 0)) from fun W hu => hu.row hb0 (by decide) (by omega))
  have HRF := hid (Upd.refl P (w.alloc (.cells (Iw.cs ⟨3, [], yr, ym, [], b, true, yl, yq⟩) 65)))
  have HML := hid (And.intro hm (And.intro hD hL))
  obtain ⟨c0, c1, c25, c26, c27⟩ := it_heads hb0
  clear g1 g2 g3 g4 hW hb0 hm hD hL
  go_enter Tryz.func40, Tryz.ntmps40
  go_upto_region 1 with fail
  generalize w.alloc (.cells (Iw.cs ⟨3, [], yr, ym, [], b, true, yl, yq⟩) 65) = W0 at *
  have tok1 : True := trivial
  have tok2 : True := trivial
  have tok3 : True := trivial
  have tok4 : True := trivial
  have tok5 : True := trivial
  have tok6 : True := trivial
  have tok7 : True := trivial
  have tok8 : True := trivial
  have tok9 : True := trivial
  go_wp2_with (first | (have _t := tok1; go_at_call 86; refine (put_any ⟨([114, 117, 108, 101, 32]).toArray⟩ HW0.out (by rw [str_size]; have := HLN.out; simp only [List.length_cons, List.length_nil]; omega)).mono ?_; rintro e W1 ⟨rfl, hw1, hu1⟩; have HV1 := hid (HRF.out.trans hu1); have HW1 := hid hw1; clear hw1 hu1 _t tok1 c0 c1 c25 c26 c27; obtain ⟨c0, c1, c25, c26, c27⟩ := it_heads (HBX.out _ HV1.out)) | (with_reducible (show wpList _ _ _ (⟨some 48, Op.load 33 (Operand.tmp 47), _, _, _, _⟩ :: _) _ _); refine wpList_load_part 33 (.tmp 47) rfl (by kernel_rfl) w.heap.size 2 rfl yr.cs _ (it_ranges (HBX.out _ HV1.out)).1 Tryz.underlying33 rfl 9 info27 rfl ?_) | (have _t := tok2; go_at_call 50; refine (re_any hr hs (HGS.out.1.upd (HU0.out.trans HV1.out)) HW1.out (Nat.zero_le _) (by have := HLD.out; omega) (by have := HLD.out; omega) (by have := HLN.out; simp only [List.length_append, List.length_cons, List.length_nil]; omega)).mono ?_; rintro e W2 ⟨rfl, hw2, hu2⟩; have HV2 := hid (HV1.out.trans hu2); have HW2 := hid hw2; clear hw2 hu2 _t tok2 c0 c1 c25 c26 c27; obtain ⟨c0, c1, c25, c26, c27⟩ := it_heads (HBX.out _ HV2.out)) | (have _t := tok3; go_at_call 86; refine (put_any ⟨([32, 45, 62, 32]).toArray⟩ HW2.out (by rw [str_size]; have := HLN.out; simp only [List.length_append, List.length_cons, List.length_nil]; omega)).mono ?_; rintro e W3 ⟨rfl, hw3, hu3⟩; have HV3 := hid (HV2.out.trans hu3); have HW3 := hid hw3; clear hw3 hu3 _t tok3 c0 c1 c25 c26 c27; obtain ⟨c0, c1, c25, c26, c27⟩ := it_heads (HBX.out _ HV3.out)) | (have _t := tok4; go_at_call 86; refine (put_any ⟨(b).toArray⟩ HW3.out (by rw [str_size]; have := HLN.out; simp only [List.length_append, List.length_cons, List.length_nil]; omega)).mono ?_; rintro e W4 ⟨rfl, hw4, hu4⟩; have HV4 := hid (HV3.out.trans hu4); have HW4 := hid hw4; clear hw4 hu4 _t tok4 c0 c1 c25 c26 c27; obtain ⟨c0, c1, c25, c26, c27⟩ := it_heads (HBX.out _ HV4.out)) | (have _t := tok5; go_at_call 86; refine (put_any ⟨([32, 47, 32]).toArray⟩ HW4.out (by rw [str_size]; have := HLN.out; simp only [List.length_append, List.length_cons, List.length_nil]; omega)).mono ?_; rintro e W5 ⟨rfl, hw5, hu5⟩; have HV5 := hid (HV4.out.trans hu5); have HW5 := hid hw5; clear hw5 hu5 _t tok5 c0 c1 c25 c26 c27; obtain ⟨c0, c1, c25, c26, c27⟩ := it_heads (HBX.out _ HV5.out)) | (with_reducible (show wpList _ _ _ (⟨some 70, Op.load 33 (Operand.tmp 69), _, _, _, _⟩ :: _) _ _); refine wpList_load_part 33 (.tmp 69) rfl (by kernel_rfl) w.heap.size 28 rfl yl.cs _ (it_ranges (HBX.out _ HV5.out)).2.2.1 Tryz.underlying33 rfl 9 info27 rfl ?_) | (have _t := tok6; go_at_call 50; refine (re_any hr1 hs1 (HGS.out.2.2.1.upd (HU0.out.trans HV5.out)) HW5.out (Nat.zero_le _) (by have := HLD.out; omega) (by have := HLD.out; omega) (by have := HLN.out; simp only [List.length_append, List.length_cons, List.length_nil]; omega)).mono ?_; rintro e W6 ⟨rfl, hw6, hu6⟩; have HV6 := hid (HV5.out.trans hu6); have HW6 := hid hw6; clear hw6 hu6 _t tok6 c0 c1 c25 c26 c27; obtain ⟨c0, c1, c25, c26, c27⟩ := it_heads (HBX.out _ HV6.out)) | (have _t := tok7; go_at_call 86; refine (put_any ⟨([32, 95, 32]).toArray⟩ HW6.out (by rw [str_size]; have := HLN.out; simp only [List.length_append, List.length_cons, List.length_nil]; omega)).mono ?_; rintro e W7 ⟨rfl, hw7, hu7⟩; have HV7 := hid (HV6.out.trans hu7); have HW7 := hid hw7; clear hw7 hu7 _t tok7 c0 c1 c25 c26 c27; obtain ⟨c0, c1, c25, c26, c27⟩ := it_heads (HBX.out _ HV7.out)) | (with_reducible (show wpList _ _ _ (⟨some 76, Op.load 33 (Operand.tmp 75), _, _, _, _⟩ :: _) _ _); refine wpList_load_part 33 (.tmp 75) rfl (by kernel_rfl) w.heap.size 37 rfl yq.cs _ (it_ranges (HBX.out _ HV7.out)).2.2.2 Tryz.underlying33 rfl 9 info27 rfl ?_) | (have _t := tok8; go_at_call 50; refine (re_any hr2 hs2 (HGS.out.2.2.2.upd (HU0.out.trans HV7.out)) HW7.out (Nat.zero_le _) (by have := HLD.out; omega) (by have := HLD.out; omega) (by have := HLN.out; simp only [List.length_append, List.length_cons, List.length_nil]; omega)).mono ?_; rintro e W8 ⟨rfl, hw8, hu8⟩; have HV8 := hid (HV7.out.trans hu8); have HW8 := hid hw8; clear hw8 hu8 _t tok8 c0 c1 c25 c26 c27; obtain ⟨c0, c1, c25, c26, c27⟩ := it_heads (HBX.out _ HV8.out)) | (have _t := tok9; go_at_call 86; refine (put_any ⟨([59, 10]).toArray⟩ HW8.out (by rw [str_size]; have := HLN.out; simp only [List.length_append, List.length_cons, List.length_nil]; omega)).mono ?_; rintro e W9 ⟨rfl, hw9, hu9⟩; have HV9 := hid (HV8.out.trans hu9); have HW9 := hid hw9; clear hw9 hu9 _t tok9 c0 c1 c25 c26 c27; obtain ⟨c0, c1, c25, c26, c27⟩ := it_heads (HBX.out _ HV9.out)))
  go_end0
  refine ⟨rfl, HW9.out.eq ?_ ?_, HU0.out.trans HV9.out⟩
  · have := HIE.out; omega
  · rw [HWE.out]; simp only [List.append_assoc, List.cons_append, List.nil_append]
end Go.Proofs.YtfljcfdfgojdoaaGreatDoor.Sh
