/-
  The contract of rule. (Printed by genE.py.)
  The contracts of kinds (a map of four functions, by their words) and of file.
-/
import Derived.Test.YtfljcfdfgojdoaaGreatDoorAa14
import Derived.Deep.DeepCutAuto
import Derived.Deep.RegionWith
import Derived.Maps.Own
import Derived.WideMake
namespace Go.Proofs.YtfljcfdfgojdoaaGreatDoor
open Go.RowKit Go.Lib

theorem Kept.setOther {bp g : Nat} {a w : World} (h : Kept bp a w) (hg : a.heap.size ≤ g) (i : Nat) (v : Value) : Kept bp a (w.setCell ⟨g, i, none⟩ v) :=
  ⟨h.os, h.tape, h.output, by simpa [World.setCell] using h.size, fun k hk hne => (heap_setCell_other w ⟨g, i, none⟩ k v (by show k ≠ g; omega)).trans (h.block k hk hne)⟩
theorem Pz.setOther {T : List Tok} {bp bt cap a dep g : Nat} {w : World} (h : Pz T bp bt cap a dep w) (h1 : bp ≠ g) (h2 : bt ≠ g) (i : Nat) (v : Value) : Pz T bp bt cap a dep (w.setCell ⟨g, i, none⟩ v) where
  blk := (heap_setCell_other w ⟨g, i, none⟩ bp v h1).trans h.blk
  toks k t ht j u hu := by
    rw [World.cell?_of_block (w := w) (heap_setCell_other w ⟨g, i, none⟩ bt v h2)]
    exact h.toks k t ht j u hu
  ne := h.ne
  inb := by simpa [World.setCell] using h.inb
  lt := h.lt
  fin := h.fin
  few := h.few
  dle := h.dle
theorem set_out {w : World} {g : Nat} {k : Int} {nm : List B} {r : Rw} {m : Mw} {o b : List B} {ar : Bool} {l q : Rw} (h : w.heap[g]? = some (.cells (itC k nm r m o b ar l q) 65 (0, 0))) (o' : List B) : (w.setCell ⟨g, 25, none⟩ (.string ⟨o'.toArray⟩)).heap[g]? = some (.cells (itC k nm r m o' b ar l q) 65 (0, 0)) := heap_setCell_same w g 25 _ 65 _ h
theorem set_by {w : World} {g : Nat} {k : Int} {nm : List B} {r : Rw} {m : Mw} {o b : List B} {ar : Bool} {l q : Rw} (h : w.heap[g]? = some (.cells (itC k nm r m o b ar l q) 65 (0, 0))) (o' : List B) : (w.setCell ⟨g, 26, none⟩ (.string ⟨o'.toArray⟩)).heap[g]? = some (.cells (itC k nm r m o o' ar l q) 65 (0, 0)) := heap_setCell_same w g 26 _ 65 _ h
theorem set_ar {w : World} {g : Nat} {k : Int} {nm : List B} {r : Rw} {m : Mw} {o b : List B} {ar : Bool} {l q : Rw} (h : w.heap[g]? = some (.cells (itC k nm r m o b ar l q) 65 (0, 0))) (o' : Bool) : (w.setCell ⟨g, 27, none⟩ (.bool o')).heap[g]? = some (.cells (itC k nm r m o b o' l q) 65 (0, 0)) := heap_setCell_same w g 27 _ 65 _ h
theorem it_cells {w : World} {g : Nat} {k : Int} {nm : List B} {r : Rw} {m : Mw} {o b : List B} {ar : Bool} {l q : Rw} (h : w.heap[g]? = some (.cells (itC k nm r m o b ar l q) 65 (0, 0))) :
    (w.cell? ⟨g, 25, none⟩ = some (.string ⟨o.toArray⟩) ∧ w.frozen? ⟨g, 25, none⟩ = false) ∧ (w.cell? ⟨g, 26, none⟩ = some (.string ⟨b.toArray⟩) ∧ w.frozen? ⟨g, 26, none⟩ = false) ∧ (w.cell? ⟨g, 27, none⟩ = some (.bool ar) ∧ w.frozen? ⟨g, 27, none⟩ = false) :=
  ⟨⟨cell_of_row _ _ 25 _ _ _ h, frozen_of_row _ _ 25 _ _ h⟩, ⟨cell_of_row _ _ 26 _ _ _ h, frozen_of_row _ _ 26 _ _ h⟩, ⟨cell_of_row _ _ 27 _ _ _ h, frozen_of_row _ _ 27 _ _ h⟩⟩
set_option maxRecDepth 100000 in
set_option maxHeartbeats 8000000 in
theorem rule_any {T : List Tok} {bp bt cap a dep : Nat} {w : World} (h : Pz T bp bt cap a dep w) :
    Calls Tryz.prog 153 #[.pointer (some ⟨bp, 0, none⟩)] w (XPost ItAt T bp bt cap a dep w (ruleM T a dep)) := by
  have hbp := h.bp_lt
  have hbt := h.inb
  have q0 := field0
  have q1 := field1
  have h0 : Pz T bp bt cap a dep (w.alloc (.cells itZ 65)) := h.below ((Below.refl _ _).alloc (Nat.le_refl _) _)
  rcases hx : altM notNone T 33 a dep with ⟨p, y⟩ | ⟨r, a1⟩
  · have hm := hid (show ruleM T a dep = .error (p, y) by simp only [ruleM, hx])
    have HX := hid hx
    clear hx
    go_enter Tryz.func153, Tryz.ntmps153
    go_wp2_with (go_at_call 52; go_loud (refine ((alt_all T 33).go (by omega) h0).mono ?_; rintro e w1 hp; obtain ⟨hk1, rfl⟩ := hp.bad HX.out))
    exact ⟨rfl, XPost.mk_bad hm.out (((Kept.refl bp w).alloc _).trans hk1) rfl⟩
  · have HX := hid hx
    cases hs : isB (tokAt T a1) [45, 62]
    · have hm := hid (show ruleM T a dep = .error ((tokAt T a1).pos, 4) by simp only [ruleM, hx, hs, Bool.false_eq_true, if_false])
      clear hx
      go_enter Tryz.func153, Tryz.ntmps153
      go_wp2_with (first | (go_at_call 52; (refine ((alt_all T 33).go (by omega) h0).mono ?_); rintro e w1 hp; obtain ⟨hk1, hl1, hz1, cs, rfl, hr⟩ := hp.good HX.out; obtain ⟨y, rfl⟩ := hr.rw; have hb1 := hz1.bp_lt; have ht1 := hz1.inb) | (refine wpList_store_new rfl 65 (.tmp 3) (.tmp 6) rfl 46 info46 65 itZ rfl (itC 3 [] y Mw.zero [] [] false Rw.zero Rw.zero) rfl rfl rfl rfl ?_) | (go_at_call 123; refine (need_no (hz1.below ((Below.refl _ _).alloc (Nat.le_refl _) _)) _ hs).mono ?_; rintro e w2 ⟨rfl, hb2⟩))
      exact ⟨rfl, XPost.mk_bad hm.out (((Kept.refl bp w).alloc _).trans (hk1.trans (((Kept.refl bp w1).alloc _).trans (Kept.of_below hb2)))) rfl⟩
    · have HM0 := hid (show ∀ R : RX It, (match ruleOut T (a1 + 1) with | .error e => .error e | .ok (o, a2) => ruleTail r o T a2 dep) = R → ruleM T a dep = R from fun R hR => by simp only [ruleM, hx, hs, if_true]; exact hR)
      clear hx
      go_enter Tryz.func153, Tryz.ntmps153
      go_upto_if 12 with (first | (go_at_call 52; (refine ((alt_all T 33).go (by omega) h0).mono ?_); rintro e w1 hp; obtain ⟨hk1, hl1, hz1, cs, rfl, hr⟩ := hp.good HX.out; obtain ⟨y, rfl⟩ := hr.rw; have hb1 := hz1.bp_lt; have ht1 := hz1.inb) | (refine wpList_store_new rfl 65 (.tmp 3) (.tmp 6) rfl 46 info46 65 itZ rfl (itC 3 [] y Mw.zero [] [] false Rw.zero Rw.zero) rfl rfl rfl rfl ?_) | (go_at_call 123; refine (need_yes (hz1.below ((Below.refl _ _).alloc (Nat.le_refl _) _)) _ hs).mono ?_; rintro e w2 ⟨rfl, hk2, hz2⟩) | (go_at_call 106; refine (tok_any hz2).mono ?_; rintro e w3 ⟨rfl, hb3⟩; simp only [Tok.cells]))
      have HB2 := hid (fin_blk hk2 hb1)
      have hs1 : w.heap.size + 1 ≤ w1.heap.size := by have := hk1.size; simpa using this
      have hk12 : Kept bp w1 w2 := ((Kept.refl bp w1).alloc _).trans hk2
      have hs2 : w1.heap.size < w2.heap.size := by have := hk2.size; simp at this; omega
      have e1 : bp ≠ w1.heap.size := by omega
      have e2 : bt ≠ w1.heap.size := by omega
      go_cut [] (fun wx => ∃ (o b : List B) (a2 : Nat), Hid (ruleOut T (a1 + 1) = .ok ((o, b), a2)) ∧ a1 + 1 < a2 ∧ Pz T bp bt cap a2 dep wx ∧ Kept bp w1 wx ∧ Hid (wx.heap[w1.heap.size]? = some (.cells (itC 3 [] y Mw.zero o b false Rw.zero Rw.zero) 65 (0, 0))) ∧ w1.heap.size < wx.heap.size)
      case first =>
        cases hk : ((tokAt T (a1 + 1)).kind == 2)
        · rcases hn : nameM T (a1 + 1) with ⟨p, u⟩ | ⟨nm, a2⟩
          · have hm := hid (HM0.out (.error (p, u)) (by simp only [ruleOut, hk, hn, Bool.false_eq_true, if_false]))
            have HN := hid hn
            clear hn
            go_wp2_with (first | (go_at_call 181; refine (pname_any (hz2.below hb3)).mono ?_; rintro e w4 hp; obtain ⟨hk4, rfl⟩ := hp.bad HN.out))
            exact ⟨rfl, XPost.mk_bad hm.out (((Kept.refl bp w).alloc _).trans (hk1.trans (hk12.trans ((Kept.of_below hb3).trans hk4)))) rfl⟩
          · have HRO := hid (show ruleOut T (a1 + 1) = .ok (([], nm), a2) by simp only [ruleOut, hk, hn, Bool.false_eq_true, if_false])
            have HN := hid hn
            clear hn
            go_wp2_with (first | (go_at_call 181; refine (pname_any (hz2.below hb3)).mono ?_; rintro e w4 hp; obtain ⟨hk4, hl4, rfl, hz4⟩ := hp.good HN.out; have HB4 := hid (((Kept.of_below hb3).trans hk4).block _ hs2 (by simpa using Ne.symm e1) |>.trans HB2.out); obtain ⟨_, ⟨c26, f26⟩, _⟩ := it_cells HB4.out))
            go_meet
            exact ⟨_, _, _, HRO, hl4, hz4.setOther e1 e2 _ _, (hk12.trans ((Kept.of_below hb3).trans hk4)).setOther (Nat.le_refl _) _ _, hid (set_by HB4.out nm), by have := ((Kept.of_below (bp := bp) hb3).trans hk4).size; simp [World.setCell]; omega⟩
        · have hq : ((tokAt T (a1 + 1)).kind != 2) = false := by simp [bne, hk]
          have HRO := hid (show ruleOut T (a1 + 1) = .ok (((tokAt T (a1 + 1)).text, []), a1 + 1 + 1) by simp only [ruleOut, hk, if_true])

          go_wp2_with (first | (go_at_call 122; refine (of_yes (hz2.below hb3) _ (by decide) hq).mono ?_; rintro e w4 ⟨rfl, hk4, hz4⟩; simp only [Tok.cells]; have HB4 := hid (((Kept.of_below hb3).trans hk4).block _ hs2 (by simpa using Ne.symm e1) |>.trans HB2.out); obtain ⟨⟨c25, f25⟩, _⟩ := it_cells HB4.out))
          go_meet
          exact ⟨_, _, _, HRO, Nat.lt_succ_self _, hz4.setOther e1 e2 _ _, (hk12.trans ((Kept.of_below hb3).trans hk4)).setOther (Nat.le_refl _) _ _, hid (set_out HB4.out _), by have := ((Kept.of_below (bp := bp) hb3).trans hk4).size; simp [World.setCell]; omega⟩
      case rest =>
      obtain ⟨o, b, a2, HO, hl2, hzx, hkx, HBX, hsx⟩ := hcut
      clear HB2 hk12 hk2 hz2 hs2
      have hkw : Kept bp (w.alloc (.cells itZ 65)) wc := hk1.trans hkx
      cases ht : isB (tokAt T a2) [47]
      · have hm := hid (HM0.out (.ok (⟨3, [], r, Mp.zero, o, b, false, Re.zero, Re.zero⟩, a2)) (by rw [HO.out]; simp only [ruleTail, ht, Bool.false_eq_true, if_false]))
        go_wp2_with (first | (go_at_call 118; refine (take_no hzx _ ht).mono ?_; rintro e w3 ⟨rfl, hb3⟩; have HB3 := hid ((hb3.block _ hsx).trans HBX.out)) | (refine wpList_load_blk rfl 65 (.tmp 3) rfl 46 info46 _ Tryz.underlying65 rfl w1.heap.size rfl 65 (itC 3 [] y Mw.zero o b false Rw.zero Rw.zero) HB3.out rfl ?_) | (refine wpList_store_blk rfl 65 (.tmp 2) (.tmp 37) rfl 46 info46 w.heap.size 65 itZ ?hg rfl (itC 3 [] y Mw.zero o b false Rw.zero Rw.zero) rfl rfl rfl rfl ?_))
        case hg => exact fin_blk (hkw.trans (Kept.of_below hb3)) hbp
        refine bodyPost_ret (results_cell_row rfl _ _ w.heap.size 65 (itC 3 [] y Mw.zero o b false Rw.zero Rw.zero) (0, 0) _ rfl (setRow_heap (fin_blk (hkw.trans (Kept.of_below hb3)) hbp) _) Tryz.underlying65 rfl info46) rfl ?_
        exact fin_it hm.out (hkw.trans (Kept.of_below hb3)) (hzx.below hb3) hbp hbt (by omega) ⟨_, _, _, _, rfl, hr.frame (fun g hg _ => by simp at hg; omega) (fun g hg hl => (hkx.trans (Kept.of_below hb3)).block g hl (by simp at hg; simp; omega)), zero_mp _ _, zero_re _ _, zero_re _ _⟩
      · have HT := hid ht
        have HMT := hid (show ∀ R : RX It, ruleTail r (o, b) T a2 dep = R → ruleM T a dep = R from fun R hR => HM0.out R (by rw [HO.out]; exact hR))
        rcases hx1 : altM notNone T 33 (a2 + 1) dep with ⟨p, u⟩ | ⟨l, a3⟩
        · have hm := hid (HMT.out (.error (p, u)) (by simp only [ruleTail, ht, hx1, if_true]))
          have HX1 := hid hx1
          clear hx1
          go_wp2_with (first | (go_at_call 118; refine (take_yes hzx _ HT.out).mono ?_; rintro e w3 ⟨rfl, hk3, hz3⟩; have HB3 := hid ((hk3.block _ hsx (by simpa using Ne.symm e1)).trans HBX.out); obtain ⟨_, _, ⟨c27, f27⟩⟩ := it_cells HB3.out; have HB3' := hid (set_ar HB3.out true); have hz3' := hz3.setOther e1 e2 27 (.bool true)) | (go_at_call 52; (with_reducible refine ((alt_all T 33).go (by omega) hz3').mono ?_); rintro e w4 hp; obtain ⟨hk4, rfl⟩ := hp.bad HX1.out))
          exact ⟨rfl, XPost.mk_bad hm.out (((Kept.refl bp w).alloc _).trans (hk1.trans (((hkx.trans hk3).setOther (Nat.le_refl _) 27 (.bool true)).trans hk4))) rfl⟩
        · have HX1 := hid hx1
          have hs3 : ∀ W : World, w1.heap.size < (W.setCell ⟨w1.heap.size, 27, none⟩ (.bool true)).heap.size ↔ w1.heap.size < W.heap.size := fun W => by simp [World.setCell]
          cases hu : ((tokAt T a3).text != [95])
          · cases hv : ((tokAt T a3).kind != 1)
            · rcases hx2 : altM notNone T 33 (a3 + 1) dep with ⟨p, u⟩ | ⟨q, a4⟩
              · have hm := hid (HMT.out (.error (p, u)) (by simp only [ruleTail, ht, hx1, hu, hv, hx2, Bool.false_eq_true, if_false, if_true]))
                have HX2 := hid hx2
                have hub : ((tokAt T a3).text == [95]) = true := by simpa [bne] using hu
                clear hx1 hx2 hu hs3
      
                go_wp2_with (first | (go_at_call 118; refine (take_yes hzx _ HT.out).mono ?_; rintro e w3 ⟨rfl, hk3, hz3⟩; have HB3 := hid ((hk3.block _ hsx (by simpa using Ne.symm e1)).trans HBX.out); obtain ⟨_, _, ⟨c27, f27⟩⟩ := it_cells HB3.out; have HB3' := hid (set_ar HB3.out true); have hz3' := hz3.setOther e1 e2 27 (.bool true)) | (go_at_call 52; (with_reducible refine ((alt_all T 33).go (by omega) hz3').mono ?_); rintro e w4 hp; obtain ⟨hk4, hl4, hz4, cs4, rfl, hr4⟩ := hp.good HX1.out; obtain ⟨z, rfl⟩ := hr4.rw; have hs4 : w1.heap.size < w4.heap.size := (by have := hk4.size; have := hk3.size; simp [World.setCell] at *; omega); have HB4 := hid ((hk4.block _ (by have := hk3.size; simp [World.setCell]; omega) (by simpa using Ne.symm e1)).trans HB3'.out); have hz4' := hz4.setRow e1 e2 (itC 3 [] y Mw.zero o b true z Rw.zero)) | (refine wpList_store_at rfl 33 (.tmp 25) (.tmp 24) rfl 9 info27 w1.heap.size 65 (itC 3 [] y Mw.zero o b true Rw.zero Rw.zero) HB4.out 28 (by rw [itC_size]; decide) z.cs rfl rfl rfl rfl (itC 3 [] y Mw.zero o b true z Rw.zero) (put_l _ _ _ _ _ _ _ _ _ _) ?_) | (go_at_call 106; refine (tok_any hz4').mono ?_; rintro e w5 ⟨rfl, hb5⟩; simp only [Tok.cells]; have hz5 := hz4'.below hb5; have HB5 := hid ((hb5.block _ (by simpa using hs4)).trans (setRow_heap HB4.out (itC 3 [] y Mw.zero o b true z Rw.zero)))) | (go_at_call 122; refine (of_yes hz5 _ (by decide) hv).mono ?_; rintro e w6 ⟨rfl, hk6, hz6⟩; simp only [Tok.cells]; have hs5 : w1.heap.size < w5.heap.size := (by have := hb5.size; simp at this; omega); have HB6 := hid ((hk6.block _ hs5 (by simpa using Ne.symm e1)).trans HB5.out)) | (go_at_call 52; (with_reducible refine ((alt_all T 33).go (by omega) hz6).mono ?_); rintro e w7 hp; obtain ⟨hk7, rfl⟩ := hp.bad HX2.out))
                exact ⟨rfl, XPost.mk_bad hm.out (((Kept.refl bp w).alloc _).trans (hk1.trans (((((((hkx.trans hk3).setOther (Nat.le_refl _) 27 (.bool true)).trans hk4).setRow (Nat.le_refl _) (itC 3 [] y Mw.zero o b true z Rw.zero)).trans (Kept.of_below hb5)).trans hk6).trans hk7))) rfl⟩
              · have hm := hid (HMT.out (.ok (⟨3, [], r, Mp.zero, o, b, true, l, q⟩, a4)) (by simp only [ruleTail, ht, hx1, hu, hv, hx2, Bool.false_eq_true, if_false, if_true]))
                have HX2 := hid hx2
                have hub : ((tokAt T a3).text == [95]) = true := by simpa [bne] using hu
                clear hx1 hx2 hu hs3
      
                go_wp2_with (first | (go_at_call 118; refine (take_yes hzx _ HT.out).mono ?_; rintro e w3 ⟨rfl, hk3, hz3⟩; have HB3 := hid ((hk3.block _ hsx (by simpa using Ne.symm e1)).trans HBX.out); obtain ⟨_, _, ⟨c27, f27⟩⟩ := it_cells HB3.out; have HB3' := hid (set_ar HB3.out true); have hz3' := hz3.setOther e1 e2 27 (.bool true)) | (go_at_call 52; (with_reducible refine ((alt_all T 33).go (by omega) hz3').mono ?_); rintro e w4 hp; obtain ⟨hk4, hl4, hz4, cs4, rfl, hr4⟩ := hp.good HX1.out; obtain ⟨z, rfl⟩ := hr4.rw; have hs4 : w1.heap.size < w4.heap.size := (by have := hk4.size; have := hk3.size; simp [World.setCell] at *; omega); have HB4 := hid ((hk4.block _ (by have := hk3.size; simp [World.setCell]; omega) (by simpa using Ne.symm e1)).trans HB3'.out); have hz4' := hz4.setRow e1 e2 (itC 3 [] y Mw.zero o b true z Rw.zero)) | (refine wpList_store_at rfl 33 (.tmp 25) (.tmp 24) rfl 9 info27 w1.heap.size 65 (itC 3 [] y Mw.zero o b true Rw.zero Rw.zero) HB4.out 28 (by rw [itC_size]; decide) z.cs rfl rfl rfl rfl (itC 3 [] y Mw.zero o b true z Rw.zero) (put_l _ _ _ _ _ _ _ _ _ _) ?_) | (go_at_call 106; refine (tok_any hz4').mono ?_; rintro e w5 ⟨rfl, hb5⟩; simp only [Tok.cells]; have hz5 := hz4'.below hb5; have HB5 := hid ((hb5.block _ (by simpa using hs4)).trans (setRow_heap HB4.out (itC 3 [] y Mw.zero o b true z Rw.zero)))) | (go_at_call 122; refine (of_yes hz5 _ (by decide) hv).mono ?_; rintro e w6 ⟨rfl, hk6, hz6⟩; simp only [Tok.cells]; have hs5 : w1.heap.size < w5.heap.size := (by have := hb5.size; simp at this; omega); have HB6 := hid ((hk6.block _ hs5 (by simpa using Ne.symm e1)).trans HB5.out)) | (go_at_call 52; (with_reducible refine ((alt_all T 33).go (by omega) hz6).mono ?_); rintro e w7 hp; obtain ⟨hk7, hl7, hz7, cs7, rfl, hr7⟩ := hp.good HX2.out; obtain ⟨z2, rfl⟩ := hr7.rw; have hs6 : w1.heap.size < w6.heap.size := Nat.lt_of_lt_of_le hs5 hk6.size; have HB7 := hid ((hk7.block _ hs6 (by simpa using Ne.symm e1)).trans HB6.out)) | (refine wpList_store_at rfl 33 (.tmp 36) (.tmp 35) rfl 9 info27 w1.heap.size 65 (itC 3 [] y Mw.zero o b true z Rw.zero) HB7.out 37 (by rw [itC_size]; decide) z2.cs rfl rfl rfl rfl (itC 3 [] y Mw.zero o b true z z2) (put_q _ _ _ _ _ _ _ _ _ _) ?_) | (refine wpList_load_blk rfl 65 (.tmp 3) rfl 46 info46 _ Tryz.underlying65 rfl w1.heap.size rfl 65 (itC 3 [] y Mw.zero o b true z z2) (setRow_heap HB7.out _) rfl ?_) | (refine wpList_store_blk rfl 65 (.tmp 2) (.tmp 37) rfl 46 info46 w.heap.size 65 itZ ?hg rfl (itC 3 [] y Mw.zero o b true z z2) rfl rfl rfl rfl ?_))
                case hg => exact fin_blk (hk1.trans ((((((((hkx.trans hk3).setOther (Nat.le_refl _) 27 (.bool true)).trans hk4).setRow (Nat.le_refl _) (itC 3 [] y Mw.zero o b true z Rw.zero)).trans (Kept.of_below hb5)).trans hk6).trans hk7).setRow (Nat.le_refl _) (itC 3 [] y Mw.zero o b true z z2))) hbp
                refine bodyPost_ret (results_cell_row rfl _ _ w.heap.size 65 (itC 3 [] y Mw.zero o b true z z2) (0, 0) _ rfl (setRow_heap (fin_blk (hk1.trans ((((((((hkx.trans hk3).setOther (Nat.le_refl _) 27 (.bool true)).trans hk4).setRow (Nat.le_refl _) (itC 3 [] y Mw.zero o b true z Rw.zero)).trans (Kept.of_below hb5)).trans hk6).trans hk7).setRow (Nat.le_refl _) (itC 3 [] y Mw.zero o b true z z2))) hbp) _) Tryz.underlying65 rfl info46) rfl ?_
                refine fin_it hm.out (hk1.trans ((((((((hkx.trans hk3).setOther (Nat.le_refl _) 27 (.bool true)).trans hk4).setRow (Nat.le_refl _) (itC 3 [] y Mw.zero o b true z Rw.zero)).trans (Kept.of_below hb5)).trans hk6).trans hk7).setRow (Nat.le_refl _) (itC 3 [] y Mw.zero o b true z z2))) (hz7.setRow e1 e2 _) hbp hbt (by omega) ⟨_, _, _, _, rfl, hr.frame (fun g hg _ => by simp at hg; omega) (fun g hg hl => (((((((((hkx.trans hk3).setOther (Nat.le_refl _) 27 (.bool true)).trans hk4).setRow (Nat.le_refl _) (itC 3 [] y Mw.zero o b true z Rw.zero)).trans (Kept.of_below hb5)).trans hk6).trans hk7).setRow (Nat.le_refl _) (itC 3 [] y Mw.zero o b true z z2))).block g hl (by simp at hg; simp; omega)), zero_mp _ _, ?_, ?_⟩
                · have h57 := ((Kept.of_below (bp := bp) hb5).trans hk6).trans hk7
                  exact hr4.frame (fun g hg _ => by have hg' : (w3.setCell ⟨w1.heap.size, 27, none⟩ (.bool true)).heap.size ≤ g := hg; have := hk3.size; simp [World.setCell] at hg'; simp; omega) (fun g hg hl => by have hg' : (w3.setCell ⟨w1.heap.size, 27, none⟩ (.bool true)).heap.size ≤ g := hg; have hk3s := hk3.size; simp [World.setCell] at hg'; exact (setRow_other _ (by omega)).trans ((h57.block g (by simpa using hl) (by simp; omega)).trans (setRow_other _ (by omega))))
                · exact hr7.frame (fun g hg _ => by have hg' : w6.heap.size ≤ g := hg; simp; omega) (fun g hg hl => by have hg' : w6.heap.size ≤ g := hg; exact setRow_other _ (by omega))
            · have hm := hid (HMT.out (.error ((tokAt T a3).pos, 4)) (by simp only [ruleTail, ht, hx1, hu, hv, Bool.false_eq_true, if_false, if_true]))
              have hub : ((tokAt T a3).text == [95]) = true := by simpa [bne] using hu
              clear hx1 hu hs3
              go_wp2_with (first | (go_at_call 118; refine (take_yes hzx _ HT.out).mono ?_; rintro e w3 ⟨rfl, hk3, hz3⟩; have HB3 := hid ((hk3.block _ hsx (by simpa using Ne.symm e1)).trans HBX.out); obtain ⟨_, _, ⟨c27, f27⟩⟩ := it_cells HB3.out; have HB3' := hid (set_ar HB3.out true); have hz3' := hz3.setOther e1 e2 27 (.bool true)) | (go_at_call 52; (with_reducible refine ((alt_all T 33).go (by omega) hz3').mono ?_); rintro e w4 hp; obtain ⟨hk4, hl4, hz4, cs4, rfl, hr4⟩ := hp.good HX1.out; obtain ⟨z, rfl⟩ := hr4.rw; have hs4 : w1.heap.size < w4.heap.size := (by have := hk4.size; have := hk3.size; simp [World.setCell] at *; omega); have HB4 := hid ((hk4.block _ (by have := hk3.size; simp [World.setCell]; omega) (by simpa using Ne.symm e1)).trans HB3'.out); have hz4' := hz4.setRow e1 e2 (itC 3 [] y Mw.zero o b true z Rw.zero)) | (refine wpList_store_at rfl 33 (.tmp 25) (.tmp 24) rfl 9 info27 w1.heap.size 65 (itC 3 [] y Mw.zero o b true Rw.zero Rw.zero) HB4.out 28 (by rw [itC_size]; decide) z.cs rfl rfl rfl rfl (itC 3 [] y Mw.zero o b true z Rw.zero) (put_l _ _ _ _ _ _ _ _ _ _) ?_) | (go_at_call 106; refine (tok_any hz4').mono ?_; rintro e w5 ⟨rfl, hb5⟩; simp only [Tok.cells]; have hz5 := hz4'.below hb5; have HB5 := hid ((hb5.block _ (by simpa using hs4)).trans (setRow_heap HB4.out (itC 3 [] y Mw.zero o b true z Rw.zero)))) | (go_at_call 122; refine (of_no hz5 _ hv).mono ?_; rintro e w6 ⟨rfl, hb6⟩))
              exact ⟨rfl, XPost.mk_bad hm.out (((Kept.refl bp w).alloc _).trans (hk1.trans ((((((hkx.trans hk3).setOther (Nat.le_refl _) 27 (.bool true)).trans hk4).setRow (Nat.le_refl _) (itC 3 [] y Mw.zero o b true z Rw.zero)).trans (Kept.of_below hb5)).trans (Kept.of_below hb6)))) rfl⟩
          · have hm := hid (HMT.out (.error ((tokAt T a3).pos, 4)) (by simp only [ruleTail, ht, hx1, hu, if_true]))
            have hub : ((tokAt T a3).text == [95]) = false := by simpa [bne] using hu
            clear hx1 hu hs3
            go_wp2_with (first | (go_at_call 118; refine (take_yes hzx _ HT.out).mono ?_; rintro e w3 ⟨rfl, hk3, hz3⟩; have HB3 := hid ((hk3.block _ hsx (by simpa using Ne.symm e1)).trans HBX.out); obtain ⟨_, _, ⟨c27, f27⟩⟩ := it_cells HB3.out; have HB3' := hid (set_ar HB3.out true); have hz3' := hz3.setOther e1 e2 27 (.bool true)) | (go_at_call 52; (with_reducible refine ((alt_all T 33).go (by omega) hz3').mono ?_); rintro e w4 hp; obtain ⟨hk4, hl4, hz4, cs4, rfl, hr4⟩ := hp.good HX1.out; obtain ⟨z, rfl⟩ := hr4.rw; have hs4 : w1.heap.size < w4.heap.size := (by have := hk4.size; have := hk3.size; simp [World.setCell] at *; omega); have HB4 := hid ((hk4.block _ (by have := hk3.size; simp [World.setCell]; omega) (by simpa using Ne.symm e1)).trans HB3'.out); have hz4' := hz4.setRow e1 e2 (itC 3 [] y Mw.zero o b true z Rw.zero)) | (refine wpList_store_at rfl 33 (.tmp 25) (.tmp 24) rfl 9 info27 w1.heap.size 65 (itC 3 [] y Mw.zero o b true Rw.zero Rw.zero) HB4.out 28 (by rw [itC_size]; decide) z.cs rfl rfl rfl rfl (itC 3 [] y Mw.zero o b true z Rw.zero) (put_l _ _ _ _ _ _ _ _ _ _) ?_) | (go_at_call 106; refine (tok_any hz4').mono ?_; rintro e w5 ⟨rfl, hb5⟩; simp only [Tok.cells]; have hz5 := hz4'.below hb5; have HB5 := hid ((hb5.block _ (by simpa using hs4)).trans (setRow_heap HB4.out (itC 3 [] y Mw.zero o b true z Rw.zero)))) | (go_at_call 107; refine (fail_any hz5 _).mono ?_; rintro e w6 ⟨rfl, hb6⟩))
            exact ⟨rfl, XPost.mk_bad hm.out (((Kept.refl bp w).alloc _).trans (hk1.trans ((((((hkx.trans hk3).setOther (Nat.le_refl _) 27 (.bool true)).trans hk4).setRow (Nat.le_refl _) (itC 3 [] y Mw.zero o b true z Rw.zero)).trans (Kept.of_below hb5)).trans (Kept.of_below hb6)))) rfl⟩
end Go.Proofs.YtfljcfdfgojdoaaGreatDoor

namespace Go.Proofs.YtfljcfdfgojdoaaGreatDoor
open Go.RowKit Go.Lib

abbrev fn (k : Nat) : Value := .func (.func k) #[] #[]
def kindsEs : Array MapEntry := #[⟨.string ⟨#[100, 101, 102]⟩, fn 151, 0⟩, ⟨.string ⟨#[109, 97, 112]⟩, fn 152, 1⟩, ⟨.string ⟨#[114, 117, 108, 101]⟩, fn 153, 2⟩, ⟨.string ⟨#[116, 111, 107, 101, 110]⟩, fn 154, 3⟩]
def kindsMap : Obj := .map kindsEs 4
theorem alloc_set (w : World) (o o' : Obj) : ({ w.alloc o with heap := (w.alloc o).heap.setIfInBounds w.heap.size o' } : World) = w.alloc o' := by
  cases w with
  | mk heap tape drawn os output =>
    show World.mk ((heap.push o).setIfInBounds heap.size o') _ _ _ _ = World.mk (heap.push o') _ _ _ _
    congr 1
    apply Array.ext_getElem?
    intro k
    rw [Array.getElem?_setIfInBounds]
    by_cases e : heap.size = k
    · subst e
      simp
    · rw [if_neg e, Array.getElem?_push, Array.getElem?_push, if_neg (Ne.symm e), if_neg (Ne.symm e)]
theorem run_ins (w : World) (es : Array MapEntry) (clock : Nat) (k : ByteArray) (v : Value) (hno : Instr.findNow .string (.string k) es.toList 0 = some none) :
    (Instr.mapUpdate 152 (.map (some w.heap.size)) (.string k) v).run Tryz.prog (w.alloc (.map es clock)) = .ok () (w.alloc (.map (es.push ⟨.string k, v, clock⟩) (clock + 1))) := by
  have hb : (w.alloc (.map es clock)).heap[w.heap.size]? = some (.map es clock) := heap_alloc_new w (.map es clock)
  have hc : (Instr.checkKey false 10000 9 (.string k)).run Tryz.prog (w.alloc (.map es clock)) = .ok () (w.alloc (.map es clock)) := MapKept.run_checkKey (k := .string k) Tryz.underlying9 (by simp [MapKept.IsKey]) false 9999
  simp [Instr.mapUpdate, run_underlying Tryz.underlying152, MapKept.run_getObj_map hb, hc, MapKept.run_findKey Tryz.underlying9 hno, MapKept.run_setObj_map _ hb, Result.andThen]
  exact alloc_set _ _ _
set_option maxRecDepth 100000 in
theorem kinds_any (w : World) : Calls Tryz.prog 121 #[] w fun e w' => e = .returned (.map (some w.heap.size)) ∧ w' = w.alloc kindsMap := by
  have hmm := @run_makeMap Tryz.prog
  have h1 := run_ins w #[] 0 ⟨#[100, 101, 102]⟩ (fn 151) rfl
  have h2 := run_ins w #[⟨.string ⟨#[100, 101, 102]⟩, fn 151, 0⟩] 1 ⟨#[109, 97, 112]⟩ (fn 152) rfl
  have h3 := run_ins w #[⟨.string ⟨#[100, 101, 102]⟩, fn 151, 0⟩, ⟨.string ⟨#[109, 97, 112]⟩, fn 152, 1⟩] 2 ⟨#[114, 117, 108, 101]⟩ (fn 153) rfl
  have h4 := run_ins w #[⟨.string ⟨#[100, 101, 102]⟩, fn 151, 0⟩, ⟨.string ⟨#[109, 97, 112]⟩, fn 152, 1⟩, ⟨.string ⟨#[114, 117, 108, 101]⟩, fn 153, 2⟩] 3 ⟨#[116, 111, 107, 101, 110]⟩ (fn 154) rfl
  simp at h1 h2 h3 h4
  go_enter Tryz.func121, Tryz.ntmps121
  go_wp2
  go_ret
  exact ⟨rfl, rfl⟩
def kindFn (k : Nat) : Value := if k = 1 then fn 151 else if k = 2 then fn 152 else if k = 3 then fn 153 else fn 154
theorem str_eq (s : List B) (a : Array B) : ((Value.string ⟨s.toArray⟩) = .string ⟨a⟩) ↔ s = a.toList := by
  constructor
  · intro h
    injection h with h
    simpa using congrArg (fun x : ByteArray => x.data.toList) h
  · intro h; rw [h]
theorem look_yes {W : World} {g : Nat} (hg : W.heap[g]? = some kindsMap) {s : List B} (hs : ¬ kindOf s = 0) :
    (Instr.lookup 152 (.map (some g)) (.string ⟨s.toArray⟩) true).run Tryz.prog W = .ok (.tuple #[kindFn (kindOf s), .bool true]) W := by
  have hb : W.heap[g]? = some (.map kindsEs 4) := hg
  have hc : (Instr.checkKey false 10000 9 (.string ⟨s.toArray⟩)).run Tryz.prog W = .ok () W := MapKept.run_checkKey (k := .string ⟨s.toArray⟩) Tryz.underlying9 (by simp [MapKept.IsKey]) false 9999
  have hf : ∃ i, Instr.findNow .string (.string ⟨s.toArray⟩) kindsEs.toList 0 = some (some (i, kindFn (kindOf s))) := by
    unfold kindOf at hs ⊢
    by_cases h1 : s = [100, 101, 102]
    · subst h1; exact ⟨0, rfl⟩
    · by_cases h2 : s = [109, 97, 112]
      · subst h2; exact ⟨1, rfl⟩
      · by_cases h3 : s = [114, 117, 108, 101]
        · subst h3; exact ⟨2, rfl⟩
        · by_cases h4 : s = [116, 111, 107, 101, 110]
          · subst h4; exact ⟨3, rfl⟩
          · simp [h1, h2, h3, h4] at hs
  obtain ⟨i, hf⟩ := hf
  have he : kindsEs.isEmpty = false := rfl
  simp [Instr.lookup, run_underlying Tryz.underlying152, MapKept.run_getObj_map hb, he, hc, MapKept.run_findKey Tryz.underlying9 hf, Result.andThen]
theorem look_no {W : World} {g : Nat} (hg : W.heap[g]? = some kindsMap) {s : List B} (hs : kindOf s = 0) :
    ∃ v, (Instr.lookup 152 (.map (some g)) (.string ⟨s.toArray⟩) true).run Tryz.prog W = .ok (.tuple #[v, .bool false]) W := by
  have hb : W.heap[g]? = some (.map kindsEs 4) := hg
  have hc : (Instr.checkKey false 10000 9 (.string ⟨s.toArray⟩)).run Tryz.prog W = .ok () W := MapKept.run_checkKey (k := .string ⟨s.toArray⟩) Tryz.underlying9 (by simp [MapKept.IsKey]) false 9999
  have hf : Instr.findNow .string (.string ⟨s.toArray⟩) kindsEs.toList 0 = some none := by
    unfold kindOf at hs
    simp only [beq_iff_eq] at hs
    split at hs
    · cases hs
    · split at hs
      · cases hs
      · split at hs
        · cases hs
        · split at hs
          · cases hs
          · rename_i h1 h2 h3 h4
            have e : ∀ a : Array B, ¬ s = a.toList → ((⟨s.toArray⟩ : ByteArray) == ⟨a⟩) = false := fun a ha => by
              show (s.toArray == a) = false
              rw [beq_eq_false_iff_ne]
              exact fun h => ha (by simpa using congrArg Array.toList h)
            simp [kindsEs, Instr.findNow, Instr.sameNow, e _ h1, e _ h2, e _ h3, e _ h4]
  have he : kindsEs.isEmpty = false := rfl
  have hz : (zeroValue 154).run Tryz.prog W = .ok .nilFunc W := by kernel_rfl
  exact ⟨.nilFunc, by simp [Instr.lookup, run_underlying Tryz.underlying152, MapKept.run_getObj_map hb, he, hc, MapKept.run_findKey Tryz.underlying9 hf, Result.andThen, hz]⟩
end Go.Proofs.YtfljcfdfgojdoaaGreatDoor
