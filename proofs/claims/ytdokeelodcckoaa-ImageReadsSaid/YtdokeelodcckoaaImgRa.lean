/-
  The contract of the reader's method rule.
-/
import Derived.Test.YtdokeelodcckoaaImgQ
import Derived.Test.YtdokeelodcckoaaImgR
import Derived.Test.YtdokeelodcckoaaImgRb
import Derived.Test.YtdokeelodcckoaaLx1
namespace Go.Proofs.Ytdokeelodcckoaa.Im
open Go.RowKit Go.Lib

theorem DfaIn.kept {R n : Nat} {w1 w2 : World} {a b c : Value} {d : Dfa} (h : DfaIn (fun g => n ≤ g) w1 a b c d) (hR : R < n) (k : Kp R w1 w2) : DfaIn (fun g => n ≤ g) w2 a b c d :=
  h.frame (fun _ h => h) (fun g hg hl => k.block g hl (by omega))
theorem DfaIn.from {w1 w2 : World} {n : Nat} {a b c : Value} {d : Dfa} (h : DfaIn (fun g => w1.heap.size ≤ g) w2 a b c d) (hn : n ≤ w1.heap.size) : DfaIn (fun g => n ≤ g) w2 a b c d :=
  h.frame (fun _ h => Nat.le_trans hn h) (fun _ _ _ => rfl)
theorem SqIn.from {w1 w2 : World} {n : Nat} {f a b c d : Value} {q : Sq} (h : SqIn (fun g => w1.heap.size ≤ g) w2 f a b c d q) (hn : n ≤ w1.heap.size) : SqIn (fun g => n ≤ g) w2 f a b c d q :=
  h.frame (fun _ h => Nat.le_trans hn h) (fun _ _ _ => rfl)
theorem infoRl : (Try.prog.info? 52).map (·.size) = some 16 := by kernel_rfl
theorem wpList_load_blk {P : Program} {ops : Array Oper} {rest : List Oper} {o : Oper} {a : Act} {w : World} {Q : Exit → Act → World → Prop} (hgd : o.guard = none) (ty : TypeId) (x : Operand) (ho : o.op = .load ty x)
    (n : Nat) (hi : (P.info? ty).map (·.size) = some n) (d : TypeDesc) (hu : P.underlying ty = some d) (hd : (match d with | .struct _ | .array _ _ => true | _ => false) = true)
    (g : Nat) (hx : a.eval x = .pointer (some ⟨g, 0, none⟩)) (t : TypeId) (cs : Array Value) (hg : w.heap[g]? = some (.cells cs t (0, 0))) (hn : cs.size = n)
    (h : wpList P ops Q rest (a.put o.dst (.agg cs)) w) : wpList P ops Q (o :: rest) a w := by
  subst hn
  exact wpList_load_row hgd ty x ho g hx t cs (0, 0) d hg hu hd hi h
def RulePost (F : Nat → Prop) (R : Nat) (w : World) (x : Rule × Rd) (e : Ending) (w' : World) : Prop :=
  ∃ cs : List Value, e = .returned (.agg cs.toArray) ∧ RuleIn (fun g => w.heap.size ≤ g) w' cs x.1 ∧ RdAt F R w' x.2 ∧ Kp R w w'

set_option maxRecDepth 100000 in
set_option maxHeartbeats 2000000 in
theorem rule_any {F : Nat → Prop} {R : Nat} {w : World} {r : Rd} (h : RdAt F R w r) (hF : ∀ g, F g → g ≠ R ∧ g < w.heap.size) :
    Calls Try.prog 50 #[.pointer (some ⟨R, 0, none⟩)] w (RulePost F R w (rule r)) := by
  have hlt := h.lt
  have HR := hid h
  have HF := hid hF
  have HFn := hid (fun g hg => (hF g hg).1)
  have HFb := hid (fun g hg => (hF g hg).2)
  clear h hF
  go_enter Try.func50, Try.ntmps50
  go_wp2_with fail
  refine (bit_any (HR.out.alloc _) HFn.out).mono ?_
  rintro e w1 ⟨rfl, hrd1, hkp1⟩
  have HRD1 := hid hrd1
  have HKP1 := hid (((Kp.refl R w).alloc _).trans hkp1)
  have HZ1 := hid ((hkp1.block w.heap.size (by simp) (by omega)).trans (heap_alloc_new _ _))
  have hs1 := hkp1.size
  rw [World.size_alloc] at hs1
  clear hrd1 hkp1
  go_wp2_with fail
  refine (auto_any HRD1.out (fun g hg => ⟨HFn.out g hg, by have := HFb.out g hg; omega⟩)).mono ?_
  rintro e w2 ⟨a1, b1, c1, rfl, hd2, hrd2, hkp2⟩
  have HA2 := hid (hd2.from hs1)
  have HRD2 := hid hrd2
  have HKP2 := hid (HKP1.out.trans hkp2)
  have HZ2 := hid ((hkp2.block w.heap.size (by omega) (by omega)).trans HZ1.out)
  have hs2 := Nat.le_trans hs1 hkp2.size
  clear hd2 hrd2 hkp2 HZ1 HRD1 HKP1
  go_wp2_with fail
  refine (auto_any HRD2.out (fun g hg => ⟨HFn.out g hg, by have := HFb.out g hg; omega⟩)).mono ?_
  rintro e w3 ⟨a2, b2, c2, rfl, hd3, hrd3, hkp3⟩
  have HA3 := hid (HA2.out.kept (by omega) hkp3)
  have HB3 := hid (hd3.from hs2)
  have HRD3 := hid hrd3
  have HKP3 := hid (HKP2.out.trans hkp3)
  have HZ3 := hid ((hkp3.block w.heap.size (by omega) (by omega)).trans HZ2.out)
  have hs3 := Nat.le_trans hs2 hkp3.size
  clear hd3 hrd3 hkp3 HZ2 HRD2 HKP2 HA2
  go_wp2_with fail
  refine (auto_any HRD3.out (fun g hg => ⟨HFn.out g hg, by have := HFb.out g hg; omega⟩)).mono ?_
  rintro e w4 ⟨a3, b3, c3, rfl, hd4, hrd4, hkp4⟩
  have HA4 := hid (HA3.out.kept (by omega) hkp4)
  have HB4 := hid (HB3.out.kept (by omega) hkp4)
  have HC4 := hid (hd4.from hs3)
  have HRD4 := hid hrd4
  have HKP4 := hid (HKP3.out.trans hkp4)
  have HZ4 := hid ((hkp4.block w.heap.size (by omega) (by omega)).trans HZ3.out)
  have hs4 := Nat.le_trans hs3 hkp4.size
  clear hd4 hrd4 hkp4 HZ3 HRD3 HKP3 HA3 HB3
  have HRL := hid (show rule r = if (bit r).1 then (⟨(auto (bit r).2).1, (auto (auto (bit r).2).2).1, (auto (auto (auto (bit r).2).2).2).1, [], true, (sq (auto (auto (auto (bit r).2).2).2).2).1⟩, (sq (auto (auto (auto (bit r).2).2).2).2).2) else (⟨(auto (bit r).2).1, (auto (auto (bit r).2).2).1, (auto (auto (auto (bit r).2).2).2).1, (txt 256 (auto (auto (auto (bit r).2).2).2).2).1, false, Sq.zero⟩, (txt 256 (auto (auto (auto (bit r).2).2).2).2).2) from rfl)
  generalize (auto (auto (auto (bit r).2).2).2).1 = d3 at *
  generalize (auto (auto (auto (bit r).2).2).2).2 = r4 at *
  generalize (auto (auto (bit r).2).2).1 = d2 at *
  generalize (auto (bit r).2).1 = d1 at *
  generalize (bit r).1 = m at *
  obtain ⟨x1, p1, y1, q1, z1, s1, rfl, rfl, rfl⟩ := HA4.out.shape
  obtain ⟨x2, p2, y2, q2, z2, s2, rfl, rfl, rfl⟩ := HB4.out.shape
  obtain ⟨x3, p3, y3, q3, z3, s3, rfl, rfl, rfl⟩ := HC4.out.shape
  cases m
  · have HRL2 := hid (HRL.out.trans (if_neg (by decide)))
    clear HRL
    have HF4 := hid (show w.heap.size < w4.heap.size by omega)
    go_upto_region 5 with (go_at_call 51; refine (txt_any (m := 256) (HRD4.out.alloc _) HFn.out).mono ?_; rintro e w5 ⟨rfl, hrd5, hkp5⟩; have hD5 := (hkp5.block w4.heap.size (by simp) (by omega)).trans (heap_alloc_new _ _); have f9 := free_box (i := 9) hD5; have y9 := cell_blk (i := 9) hD5 rfl)
    have hb : w.heap.size + 1 ≤ w4.heap.size := by omega
    have HD6 := hid (show (w5.setCell ⟨w4.heap.size, 9, none⟩ (.string ⟨(txt 256 r4).1.toArray⟩)).heap[w4.heap.size]? = some (.cells #[.slice x1 d1.cls.length p1, .slice y1 d1.next.length q1, .slice z1 d1.fin.length s1, .slice x2 d2.cls.length p2, .slice y2 d2.next.length q2, .slice z2 d2.fin.length s2, .slice x3 d3.cls.length p3, .slice y3 d3.next.length q3, .slice z3 d3.fin.length s3, .string ⟨(txt 256 r4).1.toArray⟩, .bool false, .string ⟨#[]⟩, .slice none 0 0, .slice none 0 0, .slice none 0 0, .slice none 0 0] 52 (0, 0)) by rw [heap_setCell_same _ _ _ _ _ _ hD5]; rfl)
    have hot6 : ∀ g, g ≠ w4.heap.size → (w5.setCell ⟨w4.heap.size, 9, none⟩ (.string ⟨(txt 256 r4).1.toArray⟩)).heap[g]? = w5.heap[g]? := fun g hg => (heap_setCell_other _ _ _ _ hg)
    have hbl6 : Below (w.heap.size + 1) w5 (w5.setCell ⟨w4.heap.size, 9, none⟩ (.string ⟨(txt 256 r4).1.toArray⟩)) := (Below.refl _ w5).setCell hb _
    generalize (w5.setCell ⟨w4.heap.size, 9, none⟩ (.string ⟨(txt 256 r4).1.toArray⟩)) = w6 at *
    have HK6 := hid ((HKP4.out.alloc _).trans hkp5)
    have HZ6 := hid ((hot6 w.heap.size (by omega)).trans ((hkp5.block w.heap.size (by simp; omega) (by omega)).trans ((alloc_old (by omega)).trans HZ4.out)))
    have hk4 : ∀ g, w.heap.size + 1 ≤ g → g < w4.heap.size → w6.heap[g]? = w4.heap[g]? := fun g h1 h2 => (hot6 g (by omega)).trans ((hkp5.block g (by rw [World.size_alloc]; omega) (by omega)).trans (alloc_old h2))
    clear hD5
    go_wp2_with (first | (refine wpList_store_blk rfl 52 (.tmp 2) (.tmp 21) rfl 16 infoRl w.heap.size 52 _ HZ6.out rfl (#[.slice x1 d1.cls.length p1, .slice y1 d1.next.length q1, .slice z1 d1.fin.length s1, .slice x2 d2.cls.length p2, .slice y2 d2.next.length q2, .slice z2 d2.fin.length s2, .slice x3 d3.cls.length p3, .slice y3 d3.next.length q3, .slice z3 d3.fin.length s3, .string ⟨(txt 256 r4).1.toArray⟩, .bool false, .string ⟨#[]⟩, .slice none 0 0, .slice none 0 0, .slice none 0 0, .slice none 0 0]) rfl rfl rfl rfl ?_) | (refine wpList_load_blk rfl 52 (.tmp 3) rfl 16 infoRl _ Try.underlying52 rfl w4.heap.size rfl 52 _ HD6.out rfl ?_))
    refine bodyPost_ret (results_cell_row (ty := 52) rfl _ _ w.heap.size 52 _ (0, 0) _ rfl (setRow_heap HZ6.out _) Try.underlying52 rfl (by kernel_rfl)) rfl ?_
    rw [HRL2.out]
    refine ⟨_, rfl, ⟨⟨_, _, _, _, _, _, _, _, _, _, _, _, _, _, rfl, HA4.out.lt.frame (fun g hg => by omega) (fun g hg _ => (setRow_other _ (by omega)).trans (hk4 g hg.1 hg.2)), HB4.out.lt.frame (fun g hg => by omega) (fun g hg _ => (setRow_other _ (by omega)).trans (hk4 g hg.1 hg.2)), HC4.out.lt.frame (fun g hg => by omega) (fun g hg _ => (setRow_other _ (by omega)).trans (hk4 g hg.1 hg.2)), ?_⟩⟩, (hrd5.below (hbl6.mono (by omega)) hlt HFb.out).below (Below.setRow (Below.refl _ _) (Nat.le_refl _) _) hlt HFb.out, (HK6.out.below (hbl6.mono (by omega))).below (Below.setRow (Below.refl _ _) (Nat.le_refl _) _)⟩
    exact ⟨rfl, ⟨none, 0, rfl, Nat.zero_le _, fun h => absurd rfl h⟩, ⟨none, 0, rfl, Nat.zero_le _, fun h => absurd rfl h⟩, ⟨none, 0, rfl, Nat.zero_le _, fun h => absurd rfl h⟩, ⟨none, 0, rfl, Nat.zero_le _, fun h => absurd rfl h⟩⟩
  · have HRL2 := hid (HRL.out.trans (if_pos rfl))
    clear HRL
    have HF4 := hid (show w.heap.size < w4.heap.size by omega)
    go_upto_region 5 with (go_at_call 70; refine (seq_any (HRD4.out.alloc _) (fun g hg => ⟨HFn.out g hg, by have := HFb.out g hg; simp; omega⟩)).mono ?_; rintro e w5 ⟨f, na, ou, fi, ta, rfl, hq5, hrd5, hkp5⟩; obtain ⟨x4, p4, y4, q4, z4, s4, v4, t4, rfl, rfl, rfl, rfl, rfl⟩ := hq5.shape; have hD5 := (hkp5.block w4.heap.size (by simp) (by omega)).trans (heap_alloc_new _ _); have f9 := free_box (i := 11) hD5; have f10 := free_box (i := 12) hD5; have f11 := free_box (i := 13) hD5; have f12 := free_box (i := 14) hD5; have f13 := free_box (i := 15) hD5; have y9 := cell_blk (i := 11) hD5 rfl; have y10 := cell_blk (i := 12) hD5 rfl; have y11 := cell_blk (i := 13) hD5 rfl; have y12 := cell_blk (i := 14) hD5 rfl; have y13 := cell_blk (i := 15) hD5 rfl)
    have hb : w.heap.size + 1 ≤ w4.heap.size := by omega
    have HD6 := hid (show (((((w5.setCell ⟨w4.heap.size, 11, none⟩ (.string ⟨(sq r4).1.front.toArray⟩)).setCell ⟨w4.heap.size, 12, none⟩ (.slice x4 (sq r4).1.next.length p4)).setCell ⟨w4.heap.size, 13, none⟩ (.slice y4 (sq r4).1.outs.length q4)).setCell ⟨w4.heap.size, 14, none⟩ (.slice z4 (sq r4).1.fin.length s4)).setCell ⟨w4.heap.size, 15, none⟩ (.slice v4 (sq r4).1.tail.length t4)).heap[w4.heap.size]? = some (.cells #[.slice x1 d1.cls.length p1, .slice y1 d1.next.length q1, .slice z1 d1.fin.length s1, .slice x2 d2.cls.length p2, .slice y2 d2.next.length q2, .slice z2 d2.fin.length s2, .slice x3 d3.cls.length p3, .slice y3 d3.next.length q3, .slice z3 d3.fin.length s3, .string ⟨#[]⟩, .bool true, .string ⟨(sq r4).1.front.toArray⟩, .slice x4 (sq r4).1.next.length p4, .slice y4 (sq r4).1.outs.length q4, .slice z4 (sq r4).1.fin.length s4, .slice v4 (sq r4).1.tail.length t4] 52 (0, 0)) by rw [heap_setCell_same _ _ _ _ _ _ (heap_setCell_same _ _ _ _ _ _ (heap_setCell_same _ _ _ _ _ _ (heap_setCell_same _ _ _ _ _ _ (heap_setCell_same _ _ _ _ _ _ hD5))))]; rfl)
    have hot6 : ∀ g, g ≠ w4.heap.size → (((((w5.setCell ⟨w4.heap.size, 11, none⟩ (.string ⟨(sq r4).1.front.toArray⟩)).setCell ⟨w4.heap.size, 12, none⟩ (.slice x4 (sq r4).1.next.length p4)).setCell ⟨w4.heap.size, 13, none⟩ (.slice y4 (sq r4).1.outs.length q4)).setCell ⟨w4.heap.size, 14, none⟩ (.slice z4 (sq r4).1.fin.length s4)).setCell ⟨w4.heap.size, 15, none⟩ (.slice v4 (sq r4).1.tail.length t4)).heap[g]? = w5.heap[g]? := fun g hg => ((heap_setCell_other _ _ _ _ hg).trans ((heap_setCell_other _ _ _ _ hg).trans ((heap_setCell_other _ _ _ _ hg).trans ((heap_setCell_other _ _ _ _ hg).trans (heap_setCell_other _ _ _ _ hg)))))
    have hbl6 : Below (w.heap.size + 1) w5 (((((w5.setCell ⟨w4.heap.size, 11, none⟩ (.string ⟨(sq r4).1.front.toArray⟩)).setCell ⟨w4.heap.size, 12, none⟩ (.slice x4 (sq r4).1.next.length p4)).setCell ⟨w4.heap.size, 13, none⟩ (.slice y4 (sq r4).1.outs.length q4)).setCell ⟨w4.heap.size, 14, none⟩ (.slice z4 (sq r4).1.fin.length s4)).setCell ⟨w4.heap.size, 15, none⟩ (.slice v4 (sq r4).1.tail.length t4)) := (((((Below.refl _ w5).setCell hb _).setCell hb _).setCell hb _).setCell hb _).setCell hb _
    generalize (((((w5.setCell ⟨w4.heap.size, 11, none⟩ (.string ⟨(sq r4).1.front.toArray⟩)).setCell ⟨w4.heap.size, 12, none⟩ (.slice x4 (sq r4).1.next.length p4)).setCell ⟨w4.heap.size, 13, none⟩ (.slice y4 (sq r4).1.outs.length q4)).setCell ⟨w4.heap.size, 14, none⟩ (.slice z4 (sq r4).1.fin.length s4)).setCell ⟨w4.heap.size, 15, none⟩ (.slice v4 (sq r4).1.tail.length t4)) = w6 at *
    have HK6 := hid ((HKP4.out.alloc _).trans hkp5)
    have HZ6 := hid ((hot6 w.heap.size (by omega)).trans ((hkp5.block w.heap.size (by simp; omega) (by omega)).trans ((alloc_old (by omega)).trans HZ4.out)))
    have hk4 : ∀ g, w.heap.size + 1 ≤ g → g < w4.heap.size → w6.heap[g]? = w4.heap[g]? := fun g h1 h2 => (hot6 g (by omega)).trans ((hkp5.block g (by rw [World.size_alloc]; omega) (by omega)).trans (alloc_old h2))
    clear hD5
    go_wp2_with (first | (refine wpList_store_blk rfl 52 (.tmp 2) (.tmp 21) rfl 16 infoRl w.heap.size 52 _ HZ6.out rfl (#[.slice x1 d1.cls.length p1, .slice y1 d1.next.length q1, .slice z1 d1.fin.length s1, .slice x2 d2.cls.length p2, .slice y2 d2.next.length q2, .slice z2 d2.fin.length s2, .slice x3 d3.cls.length p3, .slice y3 d3.next.length q3, .slice z3 d3.fin.length s3, .string ⟨#[]⟩, .bool true, .string ⟨(sq r4).1.front.toArray⟩, .slice x4 (sq r4).1.next.length p4, .slice y4 (sq r4).1.outs.length q4, .slice z4 (sq r4).1.fin.length s4, .slice v4 (sq r4).1.tail.length t4]) rfl rfl rfl rfl ?_) | (refine wpList_load_blk rfl 52 (.tmp 3) rfl 16 infoRl _ Try.underlying52 rfl w4.heap.size rfl 52 _ HD6.out rfl ?_))
    refine bodyPost_ret (results_cell_row (ty := 52) rfl _ _ w.heap.size 52 _ (0, 0) _ rfl (setRow_heap HZ6.out _) Try.underlying52 rfl (by kernel_rfl)) rfl ?_
    rw [HRL2.out]
    refine ⟨_, rfl, ⟨⟨_, _, _, _, _, _, _, _, _, _, _, _, _, _, rfl, HA4.out.lt.frame (fun g hg => by omega) (fun g hg _ => (setRow_other _ (by omega)).trans (hk4 g hg.1 hg.2)), HB4.out.lt.frame (fun g hg => by omega) (fun g hg _ => (setRow_other _ (by omega)).trans (hk4 g hg.1 hg.2)), HC4.out.lt.frame (fun g hg => by omega) (fun g hg _ => (setRow_other _ (by omega)).trans (hk4 g hg.1 hg.2)), ?_⟩⟩, (hrd5.below (hbl6.mono (by omega)) hlt HFb.out).below (Below.setRow (Below.refl _ _) (Nat.le_refl _) _) hlt HFb.out, (HK6.out.below (hbl6.mono (by omega))).below (Below.setRow (Below.refl _ _) (Nat.le_refl _) _)⟩
    exact (hq5.frame (fun _ h => h) (fun g hg hl => (setRow_other _ (by rw [World.size_alloc] at hg; omega)) |>.trans (hot6 g (by rw [World.size_alloc] at hg; omega))) |>.frame (fun g hg => by rw [World.size_alloc] at hg; omega) (fun _ _ _ => rfl))
end Go.Proofs.Ytdokeelodcckoaa.Im
