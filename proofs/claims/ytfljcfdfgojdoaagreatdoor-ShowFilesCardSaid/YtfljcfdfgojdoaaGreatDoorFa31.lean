/-
  The reference's sets: Span(0, 255), By(s, s, 3).
-/
import Derived.Test.YtfljcfdfgojdoaaGreatDoorFa30
namespace Go.Proofs.YtfljcfdfgojdoaaGreatDoor.Sh.Rf
open Go.RowKit Go.Lib Go.Proofs.YtfljcfdfgojdoaaGreatDoor Go.Proofs.YtfljcfdfgojdoaaGreatDoor.Sh

theorem getD_set (l : List Bool) (i x : Nat) (b : Bool) (hi : i < l.length) : (l.set i b).getD x false = if x = i then b else l.getD x false := by
  rw [List.getD_eq_getElem?_getD, List.getElem?_set, List.getD_eq_getElem?_getD]
  by_cases h : x = i
  · subst h; simp [hi]
  · rw [if_neg (fun e => h e.symm), if_neg h]
theorem make_all {l : List Bool} {s t : Se} (h : MakeAt l 256 s) (ht : SeOk t) (hl : ∀ x, x < 256 → l.getD x false = hasS t x) : s = t :=
  SeOk.same h.ok ht fun x hx => by rw [h.has x hx, decide_eq_true hx, Bool.true_and, hl x hx]
theorem has_notNone {x : Nat} (hx : x < 256) : hasS notNone x = true := by
  show hasS (notS Se.none) x = true
  rw [has_not SeOk.none hx, has_none]; rfl
theorem set_box4 {W : World} {g : Nat} {s : Se} (h : W.heap[g]? = some (.cells s.cs 30 (0, 0))) :
    (W.cell? ⟨g, 0, none⟩ = some (.int .u64 s.a) ∧ W.cell? ⟨g, 1, none⟩ = some (.int .u64 s.b) ∧ W.cell? ⟨g, 2, none⟩ = some (.int .u64 s.c) ∧ W.cell? ⟨g, 3, none⟩ = some (.int .u64 s.d)) ∧
    (W.frozen? ⟨g, 0, none⟩ = false ∧ W.frozen? ⟨g, 1, none⟩ = false ∧ W.frozen? ⟨g, 2, none⟩ = false ∧ W.frozen? ⟨g, 3, none⟩ = false) :=
  ⟨⟨cell_blk h rfl, cell_blk h rfl, cell_blk h rfl, cell_blk h rfl⟩, free_box (i := 0) h, free_box (i := 1) h, free_box (i := 2) h, free_box (i := 3) h⟩
set_option maxRecDepth 100000 in
set_option maxHeartbeats 2000000 in
theorem spanR_all (w : World) : Calls Tryz.prog 138 #[.int .u8 0, .int .u8 255] w fun e w' => e = .returned notNone.v ∧ Below w.heap.size w w' := by
  obtain ⟨j0, hj, hy0, hy1, hy2⟩ := info_parts infoBoolR
  go_enter Tryz.func138, Tryz.ntmps138
  go_upto_region 2 with (refine wpList_make_full _ rfl _ _ 107 rfl (w.heap.size + 1) 4 j0 (.bool false) 1 Tryz.underlying107 hj hy0 hy1 .i64 .i64 256 256 256 rfl rfl rfl rfl (by rw [hy2]; decide) (by unfold maxLen; omega) (by simp) ?_; intro w2 hown2 hgrow2; have HO2 := hid hown2; have HG2 := hid hgrow2; clear hown2 hgrow2)
  have hT2 : w2.heap[w.heap.size]? = some (.cells Se.none.cs 30 (0, 0)) := (HG2.out.block w.heap.size (by simp) (by simp)).trans (heap_alloc_new _ _)
  have hB2 : Below w.heap.size w w2 := ((Below.refl _ w).alloc (Nat.le_refl _) _).grown HG2.out (by simp) (fun q hq => by cases hq)
  have hR2 : BRow w2 (w.heap.size + 1) (w.heap.size + 1) 256 (List.replicate 256 false) := brow_made (by have h := HO2.out; simp only [World.size_alloc] at h; exact h)
  clear HO2 HG2 hj hy0 hy1 hy2
  have HR2 := hid hR2
  have HT2 := hid hT2
  have HB2 := hid hB2
  clear hR2 hT2 hB2
  go_wp2
  go_loopw [6] (fun v wr => ∃ (k : Nat) (l : List Bool), k ≤ 256 ∧ v = .int .i64 k ∧ Hid (l.length = 256) ∧ Hid (∀ x, x < k → l.getD x false = true) ∧ Hid (BRow wr (w.heap.size + 1) (w.heap.size + 1) 256 l) ∧ Hid (wr.heap[w.heap.size]? = some (.cells Se.none.cs 30 (0, 0))) ∧ Hid (Below w.heap.size w wr)) (fun v _ => 256 - (RowKit.intOf v).toNat)
  case atStart => exact ⟨0, _, Nat.zero_le _, rfl, hid (by simp), hid (fun x hx => by omega), HR2, HT2, HB2⟩
  case round =>
    obtain ⟨k, l, hk, rfl, HL, HX, HR, HT, HB⟩ := hrel
    by_cases hlt : k < 256
    · have hki : (k : Int) ≤ 255 := by omega
      have hk6 : (k : Int) < 256 := by omega
      have hcl := HR.out.cell (i := k) (by have := HL.out; omega) HL.out
      have hfr := own_free (i := k) HR.out
      go_wp2
      go_roundw
      case rel => exact ⟨k + 1, l.set k true, by omega, by go_num, hid (by rw [List.length_set]; exact HL.out), hid (fun x hx => by
          rw [getD_set l k x true (by have := HL.out; omega)]
          by_cases h : x = k
          · rw [if_pos h]
          · rw [if_neg h]; exact HX.out x (by omega)), hid (HR.out.set k true), hid ((heap_setCell_other _ _ _ _ (by simp)).trans HT.out), hid (HB.out.setCell (p := ⟨w.heap.size + 1, k, none⟩) (Nat.le_succ _) _)⟩
      case measure => simp [RowKit.intOf]; omega
    · obtain rfl : k = 256 := by omega
      have HBI := hid (HR.out.bools HL.out)
      have hsx := HB.out.size
      have hsT : w.heap.size < wr.heap.size := lt_of_heap HT.out
      clear hlt
      go_wp2_with (go_at_call 167; refine (makeR_is HBI.out HL.out (fun g hg => hg)).mono ?_; rintro e w3 ⟨⟨u, rfl, hu⟩, hb3⟩; obtain rfl : u = notNone := make_all hu SeOk.none.nots (fun x hx => by rw [HX.out x hx, has_notNone hx]); have HT3 := hid ((hb3.block _ hsT).trans HT.out); have HB3 := hid (HB.out.trans (hb3.mono hsx)); obtain ⟨⟨z0, z1, z2, z3⟩, g0, g1, g2, g3⟩ := set_box4 HT3.out; clear hb3 hu)
      exact bodyPost_ret (v := notNone.v) (by simp [results, Tryz.results138, go_sem, z0, z1, z2, z3]) rfl ⟨rfl, (((HB3.out.setCell (by simp) _).setCell (by simp) _).setCell (by simp) _).setCell (by simp) _⟩
theorem three (w : World) (o0 o1 o2 : Obj) : (((w.alloc o0).alloc o1).alloc o2).heap[w.heap.size]? = some o0 ∧ (((w.alloc o0).alloc o1).alloc o2).heap[w.heap.size + 1]? = some o1 ∧ (((w.alloc o0).alloc o1).alloc o2).heap[w.heap.size + 2]? = some o2 := by
  have e1 : (w.alloc o0).heap.size = w.heap.size + 1 := by simp
  have e2 : ((w.alloc o0).alloc o1).heap.size = w.heap.size + 2 := by simp
  refine ⟨(alloc_old (by omega)).trans ((alloc_old (by omega)).trans (heap_alloc_new _ _)), ?_, ?_⟩
  · rw [← e1]; exact (alloc_old (by omega)).trans (heap_alloc_new _ _)
  · rw [← e2]; exact heap_alloc_new _ _
set_option maxRecDepth 100000 in
set_option maxHeartbeats 2000000 in
theorem byR3_any (s : Se) (hs : SeOk s) (w : World) : Calls Tryz.prog 169 #[s.v, s.v, .int .i64 3] w fun e w' => e = .returned (notS s).v ∧ Below w.heap.size w w' := by
  obtain ⟨j0, hj, hy0, hy1, hy2⟩ := info_parts infoBoolR
  have HHAS := hid (fun (n : Int) (b : Nat) (h : n = b) (hb : b < 256) (W : World) => hasR_any s hs n b h hb W)
  have HS := hid hs
  clear hs
  go_enter Tryz.func169, Tryz.ntmps169
  go_upto_region 2 with (refine wpList_make_full _ rfl _ _ 107 rfl (w.heap.size + 1 + 1 + 1) 4 j0 (.bool false) 1 Tryz.underlying107 hj hy0 hy1 .i64 .i64 256 256 256 rfl rfl rfl rfl (by rw [hy2]; decide) (by unfold maxLen; omega) (by simp) ?_; intro w2 hown2 hgrow2; have HO2 := hid hown2; have HG2 := hid hgrow2; clear hown2 hgrow2)
  obtain ⟨b0, b1, b2⟩ := three w (.cells s.cs 30) (.cells s.cs 30) (.cells Se.none.cs 30)
  have hsz3 : (((w.alloc (.cells s.cs 30)).alloc (.cells s.cs 30)).alloc (.cells Se.none.cs 30)).heap.size = w.heap.size + 1 + 1 + 1 := by simp
  have h3 : Below w.heap.size w (((w.alloc (.cells s.cs 30)).alloc (.cells s.cs 30)).alloc (.cells Se.none.cs 30)) := (((Below.refl _ w).alloc (Nat.le_refl _) _).alloc (by simp) _).alloc (by simp; omega) _
  have hB2 := hid (h3.grown HG2.out (by omega) (fun q hq => by cases hq))
  have hT0 := hid ((HG2.out.block w.heap.size (by simp only [World.size_alloc]; omega) (by simp)).trans b0)
  have hT1 := hid ((HG2.out.block (w.heap.size + 1) (by simp only [World.size_alloc]; omega) (by simp)).trans b1)
  have hT2 := hid ((HG2.out.block (w.heap.size + 1 + 1) (by simp only [World.size_alloc]; omega) (by simp)).trans b2)
  have hR2 : BRow w2 (w.heap.size + 1 + 1 + 1) (w.heap.size + 1 + 1 + 1) 256 (List.replicate 256 false) := brow_made (by have h := HO2.out; simp only [World.size_alloc] at h; exact h)
  have HR2 := hid hR2
  clear HO2 HG2 hj hy0 hy1 hy2 b0 b1 b2 hsz3 h3 hR2
  go_wp2
  go_loopw [8] (fun v wr => ∃ (k : Nat) (l : List Bool), k ≤ 256 ∧ v = .int .i64 k ∧ Hid (l.length = 256) ∧ Hid (∀ x, x < k → l.getD x false = !hasS s x) ∧ Hid (BRow wr (w.heap.size + 1 + 1 + 1) (w.heap.size + 1 + 1 + 1) 256 l) ∧ Hid (wr.heap[w.heap.size]? = some (.cells s.cs 30 (0, 0))) ∧ Hid (wr.heap[w.heap.size + 1]? = some (.cells s.cs 30 (0, 0))) ∧ Hid (wr.heap[w.heap.size + 1 + 1]? = some (.cells Se.none.cs 30 (0, 0))) ∧ Hid (Below w.heap.size w wr)) (fun v _ => 256 - (RowKit.intOf v).toNat)
  case atStart => exact ⟨0, _, Nat.zero_le _, rfl, hid (by simp), hid (fun x hx => by omega), HR2, hT0, hT1, hT2, hB2⟩
  case round =>
    obtain ⟨k, l, hk, rfl, HL, HX, HR, HT0, HT1, HT2, HB⟩ := hrel
    have hl2 := lt_of_heap HT2.out
    by_cases hlt : k < 256
    · have hki : (k : Int) < 256 := by omega
      obtain ⟨⟨c0, c1, c2, c3⟩, _⟩ := set_box4 HT0.out
      have tok1 : True := trivial
      have tok2 : True := trivial
      have hcall := HHAS.out k k rfl hlt
      have HFIN := hid (show ∀ W b, b = (!hasS s k) → BRow W (w.heap.size + 1 + 1 + 1) (w.heap.size + 1 + 1 + 1) 256 l → BRow (W.setCell ⟨w.heap.size + 1 + 1 + 1, k, none⟩ (.bool b)) (w.heap.size + 1 + 1 + 1) (w.heap.size + 1 + 1 + 1) 256 (l.set k b) ∧ ∀ x, x < k + 1 → (l.set k b).getD x false = !hasS s x from fun W b hb h => ⟨h.set k b, fun x hx => by
          rw [getD_set l k x b (by have := HL.out; omega)]
          by_cases h : x = k
          · rw [if_pos h, h, hb]
          · rw [if_neg h]; exact HX.out x (by omega)⟩)
      cases hh : hasS s k
      all_goals
        rw [hh] at hcall HFIN
        clear hh
        go_wp2_with (first | (have _t := tok1; go_at_call 196; refine (hcall _).mono ?_; rintro e w3 ⟨rfl, hb3⟩; have HB3 := hid (HB.out.trans (hb3.mono HB.out.size)); have HR3 := hid (show BRow w3 (w.heap.size + 1 + 1 + 1) (w.heap.size + 1 + 1 + 1) 256 l from own_later HR.out hb3); have HS0 := hid ((hb3.block _ (by omega)).trans HT0.out); have HS1 := hid ((hb3.block _ (by omega)).trans HT1.out); have HS2 := hid ((hb3.block _ hl2).trans HT2.out); have hl3 := lt_of_heap HS2.out; clear hb3 c0 c1 c2 c3 tok1 _t; obtain ⟨⟨c0, c1, c2, c3⟩, _⟩ := set_box4 HS1.out) | (have _t := tok2; go_at_call 196; refine (hcall _).mono ?_; rintro e w4 ⟨rfl, hb4⟩; have HB4 := hid (HB3.out.trans (hb4.mono HB3.out.size)); have HR4 := hid (show BRow w4 (w.heap.size + 1 + 1 + 1) (w.heap.size + 1 + 1 + 1) 256 l from own_later HR3.out hb4); have HU0 := hid ((hb4.block _ (by omega)).trans HS0.out); have HU1 := hid ((hb4.block _ (by omega)).trans HS1.out); have HU2 := hid ((hb4.block _ hl3).trans HS2.out); clear hb4 c0 c1 c2 c3 tok2 _t; have hcl := HR4.out.cell (i := k) (by have := HL.out; omega) HL.out; have hfr := own_free (i := k) HR4.out))
        go_roundw
        case rel => exact ⟨k + 1, l.set k _, by omega, by go_num, hid (by rw [List.length_set]; exact HL.out), hid (HFIN.out _ _ rfl HR4.out).2, hid (HFIN.out _ _ rfl HR4.out).1, hid ((heap_setCell_other _ _ _ _ (by show _ ≠ w.heap.size + 1 + 1 + 1; omega)).trans HU0.out), hid ((heap_setCell_other _ _ _ _ (by show _ ≠ w.heap.size + 1 + 1 + 1; omega)).trans HU1.out), hid ((heap_setCell_other _ _ _ _ (by show _ ≠ w.heap.size + 1 + 1 + 1; omega)).trans HU2.out), hid (HB4.out.setCell (p := ⟨w.heap.size + 1 + 1 + 1, k, none⟩) (show w.heap.size ≤ w.heap.size + 1 + 1 + 1 by omega) _)⟩
        case measure => simp [RowKit.intOf]; omega
    · obtain rfl : k = 256 := by omega
      have HBI := hid (HR.out.bools HL.out)
      have hsx := HB.out.size
      clear hlt
      go_wp2_with (go_at_call 167; refine (makeR_is HBI.out HL.out (fun g hg => hg)).mono ?_; rintro e w3 ⟨⟨⟨ta, tb, tc, td⟩, rfl, hu⟩, hb3⟩; have HU := hid (show (⟨ta, tb, tc, td⟩ : Se) = notS s from make_all hu HS.out.nots (fun x hx => by rw [HX.out x hx, has_not HS.out hx])); have HT3 := hid ((hb3.block _ hl2).trans HT2.out); have HB3 := hid (HB.out.trans (hb3.mono hsx)); obtain ⟨⟨z0, z1, z2, z3⟩, g0, g1, g2, g3⟩ := set_box4 HT3.out; clear hb3 hu)
      exact bodyPost_ret (v := (⟨ta, tb, tc, td⟩ : Se).v) (by simp [results, Tryz.results169, go_sem, z0, z1, z2, z3]) rfl ⟨by rw [HU.out], (((HB3.out.setCell (show w.heap.size ≤ w.heap.size + 1 + 1 by omega) _).setCell (show w.heap.size ≤ w.heap.size + 1 + 1 by omega) _).setCell (show w.heap.size ≤ w.heap.size + 1 + 1 by omega) _).setCell (show w.heap.size ≤ w.heap.size + 1 + 1 by omega) _⟩
end Go.Proofs.YtfljcfdfgojdoaaGreatDoor.Sh.Rf
