/-
  The contract of image.Decode.
-/
import Derived.Test.YtdokeelodcckoaaImgRe
import Derived.BigQuiet
import Derived.Deep.DeepCutAuto
namespace Go.Proofs.Ytdokeelodcckoaa.Im
open Go.RowKit Go.Lib

theorem below_drewN {B : Nat} {a w : World} (h : Below B a w) (n : Nat) : Below B a (w.drewN n) := h.trans ⟨rfl, rfl, rfl, Nat.le_refl _, fun _ _ => rfl⟩
theorem RowK.lt {α : Type} {k : Nat} {F : Nat → Prop} {w : World} {R R' : List Value → α → Prop} {v : Value} {l : List α} (hk : 0 < k) (h : RowK k F w R v l) (hR : ∀ c x, x ∈ l → R c x → R' c x) : RowK k (fun g => F g ∧ g < w.heap.size) w R' v l := by
  obtain ⟨ad, cap, h1, h2, h3⟩ := h
  refine ⟨ad, cap, h1, h2, fun hl => ?_⟩
  obtain ⟨g, off, h4, h5, h6⟩ := h3 hl
  refine ⟨g, off, h4, ⟨h5, ?_⟩, fun i hi => ?_⟩
  · obtain ⟨cs, h7, h8, _⟩ := h6 0 (List.length_pos_iff.2 hl)
    exact World.block_lt_of_cell? w _ (h8 0 _ (List.getElem?_eq_getElem (by omega)))
  · obtain ⟨cs, h7, h8, h9⟩ := h6 i hi
    exact ⟨cs, h7, h8, hR cs _ (List.getElem_mem hi) h9⟩
theorem ImgIn.lt {F : Nat → Prop} {w : World} {a b : Value} {x : Img} (h : ImgIn F w a b x) : ImgIn (fun g => F g ∧ g < w.heap.size) w a b x :=
  ⟨h.rules.lt (by decide) fun _ _ _ h => h.lt, h.classes.lt (by decide) fun _ _ _ h => h.lt⟩
def DecPost (w : World) (x : Except Int Img) (e : Ending) (w' : World) : Prop :=
  Below w.heap.size w w' ∧ match x with
    | .error c => e = .returned (.tuple #[.agg #[.slice none 0 0, .slice none 0 0], .int .i64 c])
    | .ok y => ∃ a b, e = .returned (.tuple #[.agg #[a, b], .int .i64 0]) ∧ ImgIn (fun g => w.heap.size ≤ g) w' a b y ∧ ImgLens y
theorem or_four (x3 x4 x5 x6 : Nat) (h3 : x3 < 256) (h4 : x4 < 256) (h5 : x5 < 256) (h6 : x6 < 256) :
    bits .or .i64 (bits .or .i64 (bits .or .i64 ((x3 : Int) * 16777216) ((x4 : Int) * 65536)) ((x5 : Int) * 256)) (x6 : Int) = 16777216 * (x3 : Int) + 65536 * x4 + 256 * x5 + x6 := by
  have e1 : bits .or .i64 ((x3 : Int) * 16777216) ((x4 : Int) * 65536) = ((16777216 * x3 + 65536 * x4 : Nat) : Int) := by
    have h := Nat.shiftLeft_add_eq_or_of_lt (i := 24) (b := x4 * 65536) (by omega) x3
    rw [Nat.shiftLeft_eq] at h
    rw [show ((x3 : Int) * 16777216) = ((x3 * 2 ^ 24 : Nat) : Int) by omega, show ((x4 : Int) * 65536) = ((x4 * 65536 : Nat) : Int) by omega, bits_or_i64_nat _ _ (by omega) (by omega), ← h]
    omega
  have e2 : bits .or .i64 ((16777216 * x3 + 65536 * x4 : Nat) : Int) ((x5 : Int) * 256) = ((16777216 * x3 + 65536 * x4 + 256 * x5 : Nat) : Int) := by
    have h := Nat.shiftLeft_add_eq_or_of_lt (i := 16) (b := x5 * 256) (by omega) (256 * x3 + x4)
    rw [Nat.shiftLeft_eq] at h
    rw [show (16777216 * x3 + 65536 * x4 : Nat) = (256 * x3 + x4) * 2 ^ 16 by omega, show ((x5 : Int) * 256) = ((x5 * 256 : Nat) : Int) by omega, bits_or_i64_nat _ _ (by omega) (by omega), ← h]
    omega
  have e3 : bits .or .i64 ((16777216 * x3 + 65536 * x4 + 256 * x5 : Nat) : Int) (x6 : Int) = ((16777216 * x3 + 65536 * x4 + 256 * x5 + x6 : Nat) : Int) := by
    have h := Nat.shiftLeft_add_eq_or_of_lt (i := 8) (b := x6) (by omega) (65536 * x3 + 256 * x4 + x5)
    rw [Nat.shiftLeft_eq] at h
    rw [show (16777216 * x3 + 65536 * x4 + 256 * x5 : Nat) = (65536 * x3 + 256 * x4 + x5) * 2 ^ 8 by omega, bits_or_i64_nat _ _ (by omega) (by omega), ← h]
  rw [e1, e2, e3]
  omega

set_option maxRecDepth 100000 in
set_option maxHeartbeats 2000000 in
theorem decode_any {F : Nat → Prop} {w : World} {v : Value} {l : List B} (h : BytesC F w v l) (hF : ∀ g, F g → g < w.heap.size) :
    Calls Try.prog 16 #[v] w (DecPost w (decode nameOk l)) := by
  have HB := hid h
  obtain ⟨ad, cp, rfl, h1, h2, h3⟩ := h
  unfold maxLen at h2
  by_cases h9 : l.length < 9
  · have hd := hid (show decode nameOk l = .error 6 by unfold decode; rw [if_pos h9])
    have h9' : (l.length : Int) < 9 := by omega
    clear h9
    go_enter Try.func16, Try.ntmps16
    go_wp2_with fail
    refine bodyPost_ret (results_cell_one (ty := 25) rfl _ _ w.heap.size 25 _ (0, 0) _ rfl (heap_alloc_new _ _) Try.underlying25 rfl (by kernel_rfl)) rfl ?_
    rw [hd.out]
    exact ⟨(Below.refl _ w).alloc (Nat.le_refl _) _, rfl⟩
  · have h9' : ¬ (l.length : Int) < 9 := by omega
    have hne : l ≠ [] := by intro e; subst e; simp at h9
    obtain ⟨g, off, rfl, hg, hc⟩ := h3 hne
    have hlg : g < w.heap.size := hF g hg
    have cl : ∀ i, i < l.length → w.cell? ⟨g, off + i, none⟩ = some (.int .u8 (byteAt l i)) := fun i hi => by
      obtain ⟨c, e1, e2⟩ := hc i hi
      rw [e1, e2, byteAt_get hi]
    have CL := hid (fun (W : World) (hW : W.heap[g]? = w.heap[g]?) (i : Nat) (hi : i < l.length) => (cell_heap hW).trans (cl i hi))
    have HC := hid hc
    clear hc cl hne h3
    go_enter Try.func16, Try.ntmps16
    go_upto_region 3 with fail
    have b3 := byteAt_lt l 3
    have b4 := byteAt_lt l 4
    have b5 := byteAt_lt l 5
    have b6 := byteAt_lt l 6
    have HX := hid (show ∀ i, byteAt l i = byteAt l i from fun _ => rfl)
    have hor := or_four (byteAt l 3) (byteAt l 4) (byteAt l 5) (byteAt l 6) b3 b4 b5 b6
    have c3 := CL.out (w.alloc (.cells #[.slice none 0 0, .slice none 0 0] 25)) (alloc_old hlg) 3 (by omega)
    have c4 := CL.out (w.alloc (.cells #[.slice none 0 0, .slice none 0 0] 25)) (alloc_old hlg) 4 (by omega)
    have c5 := CL.out (w.alloc (.cells #[.slice none 0 0, .slice none 0 0] 25)) (alloc_old hlg) 5 (by omega)
    have c6 := CL.out (w.alloc (.cells #[.slice none 0 0, .slice none 0 0] 25)) (alloc_old hlg) 6 (by omega)
    go_quiet (fail)
    have hB1 : Below w.heap.size w ((w.alloc (.cells #[.slice none 0 0, .slice none 0 0] 25)).drewN nq) := below_drewN ((Below.refl _ w).alloc (Nat.le_refl _) _) nq
    have HZ1 := hid (show ((w.alloc (.cells #[.slice none 0 0, .slice none 0 0] 25)).drewN nq).heap[w.heap.size]? = some (.cells #[.slice none 0 0, .slice none 0 0] 25 (0, 0)) from heap_alloc_new _ _)
    generalize (w.alloc (.cells #[.slice none 0 0, .slice none 0 0] 25)).drewN nq = w1 at *
    clear c3 c4 c5 c6 hor
    have hB1g := hB1.block g hlg
    have c0 := CL.out w1 hB1g 0 (by omega)
    have c1 := CL.out w1 hB1g 1 (by omega)
    have c2 := CL.out w1 hB1g 2 (by omega)
    rw [Nat.add_zero] at c0
    have hT : 16777216 * (byteAt l 3 : Int) + 65536 * byteAt l 4 + 256 * byteAt l 5 + byteAt l 6 = (tells l : Int) := by unfold tells; omega
    rw [hT]
    have hHO : headOk l = (decide (byteAt l 0 = 87) && decide (byteAt l 1 = 72) && decide (byteAt l 2 = 1) && decide (tells l ≤ most)) := rfl
    have HD1 : Hid (decode nameOk l = if headOk l = false then .error 4 else if (l.drop 9).length < tells l then .error 6 else if tells l < (l.drop 9).length then .error 4 else if sumL (l.drop 9) ≠ 256 * byteAt l 7 + byteAt l 8 then .error 5 else if (img ⟨l.drop 9, false⟩).2.bad || !(img ⟨l.drop 9, false⟩).2.b.isEmpty then .error 4 else if (encode nameOk (img ⟨l.drop 9, false⟩).1).2 ≠ 0 ∨ (encode nameOk (img ⟨l.drop 9, false⟩).1).1 ≠ l then .error 4 else .ok (img ⟨l.drop 9, false⟩).1) := hid (by unfold decode; rw [if_neg h9])
    clear b3 b4 b5 b6
    generalize tells l = T at *
    obtain ⟨y0, y1⟩ := twocells HZ1.out
    have f0 := free_box (i := 0) HZ1.out
    have f1 := free_box (i := 1) HZ1.out
    by_cases hh : headOk l = false
    · have hd := hid (HD1.out.trans (if_pos hh))
      clear HD1
      rw [hHO] at hh
      by_cases k0 : byteAt l 0 = 87
      · rw [k0] at c0
        by_cases k1 : byteAt l 1 = 72
        · rw [k1] at c1
          by_cases k2 : byteAt l 2 = 1
          · rw [k2] at c2
            have k3 : (1048576 : Int) < T := by
              have : ¬ T ≤ 1048576 := by simpa [k0, k1, k2, most] using hh
              omega
            clear hh hHO
            go_wp2_with fail
            exact bodyPost_ret (results_cell_one (ty := 25) rfl _ _ w.heap.size 25 _ (0, 0) _ rfl (two_end HZ1.out) Try.underlying25 rfl (by kernel_rfl)) rfl (by rw [hd.out]; exact ⟨(hB1.setCell (Nat.le_refl _) _).setCell (Nat.le_refl _) _, rfl⟩)
          · have k2' : ¬ (byteAt l 2 : Int) = 1 := by omega
            clear hh hHO
            go_wp2_with fail
            exact bodyPost_ret (results_cell_one (ty := 25) rfl _ _ w.heap.size 25 _ (0, 0) _ rfl (two_end HZ1.out) Try.underlying25 rfl (by kernel_rfl)) rfl (by rw [hd.out]; exact ⟨(hB1.setCell (Nat.le_refl _) _).setCell (Nat.le_refl _) _, rfl⟩)
        · have k1' : ¬ (byteAt l 1 : Int) = 72 := by omega
          clear hh hHO
          go_wp2_with fail
          exact bodyPost_ret (results_cell_one (ty := 25) rfl _ _ w.heap.size 25 _ (0, 0) _ rfl (two_end HZ1.out) Try.underlying25 rfl (by kernel_rfl)) rfl (by rw [hd.out]; exact ⟨(hB1.setCell (Nat.le_refl _) _).setCell (Nat.le_refl _) _, rfl⟩)
      · have k0' : ¬ (byteAt l 0 : Int) = 87 := by omega
        clear hh hHO
        go_wp2_with fail
        exact bodyPost_ret (results_cell_one (ty := 25) rfl _ _ w.heap.size 25 _ (0, 0) _ rfl (two_end HZ1.out) Try.underlying25 rfl (by kernel_rfl)) rfl (by rw [hd.out]; exact ⟨(hB1.setCell (Nat.le_refl _) _).setCell (Nat.le_refl _) _, rfl⟩)
    · have HD2 := hid (HD1.out.trans (if_neg hh))
      clear HD1
      rw [hHO] at hh
      have hh2 : byteAt l 0 = 87 ∧ byteAt l 1 = 72 ∧ byteAt l 2 = 1 ∧ T ≤ 1048576 := by
        simp only [Bool.and_eq_false_iff, not_or, Bool.not_eq_false, decide_eq_true_eq, most] at hh
        omega
      obtain ⟨k0, k1, k2, k3⟩ := hh2
      rw [k0] at c0
      rw [k1] at c1
      rw [k2] at c2
      have k3' : ¬ (1048576 : Int) < T := by omega
      clear hh hHO
      have hlen : (l.drop 9).length = l.length - 9 := by simp
      rw [hlen] at HD2
      go_upto_region 6 with fail
      go_cut [5] (fun v5 wx => w1 = wx ∧ ∃ o9, v5 = .slice (some ⟨g, o9, none⟩) (l.length - 9) (cp - 9) ∧ (l.length - 9 ≠ 0 → o9 = off + 9))
      case first =>
        by_cases hcp : cp = 9
        · subst hcp
          go_wp2_with fail
          go_meet
          exact ⟨rfl, off, by rw [show l.length - 9 = 0 by omega], fun h => by omega⟩
        · go_wp2_with fail
          go_meet
          exact ⟨rfl, off + 9, rfl, fun _ => rfl⟩
      case rest =>
      obtain ⟨rfl, o9, rfl, ho9⟩ := hcut
      by_cases hs1 : l.length - 9 < T
      · have hd := hid (HD2.out.trans (if_pos hs1))
        have hs1' : ((l.length - 9 : Nat) : Int) < T := by omega
        go_wp2_with fail
        exact bodyPost_ret (results_cell_one (ty := 25) rfl _ _ w.heap.size 25 _ (0, 0) _ rfl (two_end HZ1.out) Try.underlying25 rfl (by kernel_rfl)) rfl (by rw [hd.out]; exact ⟨(hB1.setCell (Nat.le_refl _) _).setCell (Nat.le_refl _) _, rfl⟩)
      · have HD3 := hid (HD2.out.trans (if_neg hs1))
        clear HD2
        by_cases hs2 : T < l.length - 9
        · have hd := hid (HD3.out.trans (if_pos hs2))
          have hs2' : (T : Int) < ((l.length - 9 : Nat) : Int) := by omega
          have hs1' : ¬ ((l.length - 9 : Nat) : Int) < T := by omega
          go_wp2_with fail
          exact bodyPost_ret (results_cell_one (ty := 25) rfl _ _ w.heap.size 25 _ (0, 0) _ rfl (two_end HZ1.out) Try.underlying25 rfl (by kernel_rfl)) rfl (by rw [hd.out]; exact ⟨(hB1.setCell (Nat.le_refl _) _).setCell (Nat.le_refl _) _, rfl⟩)
        · have HD4 := hid (HD3.out.trans (if_neg hs2))
          clear HD3
          have hs1' : ¬ ((l.length - 9 : Nat) : Int) < T := by omega
          have hs2' : ¬ (T : Int) < ((l.length - 9 : Nat) : Int) := by omega
          go_upto_region 11 with fail
          have b7 := byteAt_lt l 7
          have b8 := byteAt_lt l 8
          have hor := or_two (byteAt l 7) (byteAt l 8) (by omega) (by omega)
          have c7 := CL.out w1 hB1g 7 (by omega)
          have c8 := CL.out w1 hB1g 8 (by omega)
          have HCELL := hid (show ∀ i (hi : i < (l.drop 9).length), w1.cell? ⟨g, o9 + i, none⟩ = some (bV (l.drop 9)[i]) from fun i hi => by
            have hi9 : 9 + i < l.length := by rw [hlen] at hi; omega
            rw [ho9 (by omega), Nat.add_assoc, CL.out w1 hB1g (9 + i) hi9, ← byteAt_get hi9, List.getElem_drop])
          have HCON := hid (show BytesIn (fun q => q = g) w1 (.slice (some ⟨g, o9, none⟩) (l.length - 9) (cp - 9)) (l.drop 9) from ⟨_, _, by rw [hlen], by rw [hlen]; unfold maxLen; omega, fun _ => ⟨g, o9, rfl, rfl, fun i hi => ⟨_, HCELL.out i hi, rfl⟩⟩⟩)
          have HCQ := hid (fun n : Nat => BytesIn.frame (w' := w1.drewN n) HCON.out (fun _ h => h) (fun _ _ _ => rfl))
          go_quiet ((go_at_call 14; exact quiet_same (sum_any (HCQ.out _))))
          have hB2 := below_drewN hB1 nq
          have HZ2 := hid (show (w1.drewN nq).heap[w.heap.size]? = some (.cells #[.slice none 0 0, .slice none 0 0] 25 (0, 0)) from HZ1.out)
          have HC2 := hid (show ∀ i (hi : i < (l.drop 9).length), (w1.drewN nq).cell? ⟨g, o9 + i, none⟩ = some (bV (l.drop 9)[i]) from HCELL.out)
          generalize w1.drewN nq = w2 at *
          clear HCQ HCON HCELL hor c7 c8 c0 c1 c2 y0 y1 f0 f1 HZ1 hB1 hB1g b7 b8
          obtain ⟨y0, y1⟩ := twocells HZ2.out
          have f0 := free_box (i := 0) HZ2.out
          have f1 := free_box (i := 1) HZ2.out
          by_cases hsm : sumL (l.drop 9) = 256 * byteAt l 7 + byteAt l 8
          · have HD5 := hid (HD4.out.trans (if_neg (fun h => h hsm)))
            have hsm' : (sumL (l.drop 9) : Int) = 256 * byteAt l 7 + byteAt l 8 := by omega
            clear HD4 hsm
            go_upto_region 14 with fail
            clear hsm'
            have hsz2 := hB2.size
            have HRD := hid (show RdAt (fun q => q = g) w2.heap.size (w2.alloc (.cells #[.slice (some ⟨g, o9, none⟩) (l.length - 9) (cp - 9), .bool false] 68)) ⟨l.drop 9, false⟩ from ⟨g, o9, cp - 9, by rw [hlen]; exact heap_alloc_new _ _, by rw [hlen]; omega, by unfold maxLen; omega, rfl, fun i hi => (cell_heap (alloc_old (by omega))).trans (HC2.out i hi)⟩)
            have hB3 := hB2.alloc (by omega) (.cells #[.slice (some ⟨g, o9, none⟩) (l.length - 9) (cp - 9), .bool false] 68)
            have HZ3 := hid ((alloc_old (o := .cells #[.slice (some ⟨g, o9, none⟩) (l.length - 9) (cp - 9), .bool false] 68) (lt_of_heap HZ2.out)).trans HZ2.out)
            go_wp2_with fail
            refine (image_any HRD.out (fun q hq => by rw [World.size_alloc]; omega)).mono ?_
            rintro e w4 ⟨va, vb, rfl, himg, hrd4, hkp4⟩
            have hs4 := hkp4.size
            rw [World.size_alloc] at hs4
            have hB4 := hB3.trans ((hkp4.low (by rw [World.size_alloc]; omega)).mono (by omega))
            have HZ4 := hid ((hkp4.block w.heap.size (by rw [World.size_alloc]; have := lt_of_heap HZ2.out; omega) (by have := lt_of_heap HZ2.out; omega)).trans HZ3.out)
            have HLENS := hid (img_lens ⟨l.drop 9, false⟩)
            obtain ⟨ada, cpa, rfl, _, _⟩ := himg.rules
            obtain ⟨adb, cpb, rfl, _, _⟩ := himg.classes
            generalize (img ⟨l.drop 9, false⟩).2 = rr at *
            generalize (img ⟨l.drop 9, false⟩).1 = y at *
            clear HRD hkp4 hB3 HZ3 HC2 y0 y1 f0 f1 HZ2
            go_upto_region 15 with fail
            have HI5 := hid (himg.lt.frame (F' := fun q => w.heap.size + 1 ≤ q ∧ q < w4.heap.size) (w' := w4.alloc (.cells #[.slice ada y.rules.length cpa, .slice adb y.classes.length cpb] 25)) (fun q hq => by have := hq.1; rw [World.size_alloc] at this; have := lt_of_heap HZ4.out; omega) (fun q _ hl => alloc_old hl))
            have hR5 := hrd4.alloc (.cells #[.slice ada y.rules.length cpa, .slice adb y.classes.length cpb] 25)
            have hB5 := hB4.alloc (by omega) (.cells #[.slice ada y.rules.length cpa, .slice adb y.classes.length cpb] 25)
            have HZ5 := hid ((alloc_old (o := (.cells #[.slice ada y.rules.length cpa, .slice adb y.classes.length cpb] 25)) (lt_of_heap HZ4.out)).trans HZ4.out)
            have HX5 := hid (heap_alloc_new w4 (.cells #[.slice ada y.rules.length cpa, .slice adb y.classes.length cpb] 25))
            have hs5 : (w4.alloc (.cells #[.slice ada y.rules.length cpa, .slice adb y.classes.length cpb] 25)).heap.size = w4.heap.size + 1 := World.size_alloc ..
            have hl4 := lt_of_heap HZ4.out
            generalize w4.alloc (.cells #[.slice ada y.rules.length cpa, .slice adb y.classes.length cpb] 25) = w5 at *
            generalize w4.heap.size = X at *
            generalize w2.heap.size = R at *
            clear himg hrd4 hB4 HZ4 hB2
            obtain ⟨gR, oR, cR, hR1, hR2, hR3, hR4, _⟩ := hR5
            obtain ⟨z0, z1⟩ := twocells hR1
            obtain ⟨y0, y1⟩ := twocells HZ5.out
            obtain ⟨x0, x1⟩ := twocells HX5.out
            have f0 := free_box (i := 0) HZ5.out
            have f1 := free_box (i := 1) HZ5.out
            clear hR1 hR4
            cases hbad : rr.bad
            · rw [hbad] at z1
              by_cases hl0 : 0 < rr.b.length
              · have hd := hid (HD5.out.trans (if_pos (by
                  have : rr.b.isEmpty = false := by cases h : rr.b with
                    | nil => rw [h] at hl0; simp at hl0
                    | cons => rfl
                  rw [this]; simp)))
                have hl0' : (0 : Int) < rr.b.length := by omega
                go_wp2_with fail
                exact bodyPost_ret (results_cell_one (ty := 25) rfl _ _ w.heap.size 25 _ (0, 0) _ rfl (two_end HZ5.out) Try.underlying25 rfl (by kernel_rfl)) rfl (by rw [hd.out]; exact ⟨(hB5.setCell (Nat.le_refl _) _).setCell (Nat.le_refl _) _, rfl⟩)
              · have HD6 := hid (HD5.out.trans (if_neg (by
                  have : rr.b = [] := List.eq_nil_of_length_eq_zero (by omega)
                  rw [this, hbad]; simp)))
                have hl0' : ¬ (0 : Int) < rr.b.length := by omega
                clear HD5
                go_wp2_with fail
                refine (encode_any HI5.out (fun q hq => by omega) HLENS.out).mono ?_
                rintro e w6 ⟨hb6, v6, rfl, hv6⟩
                have hB6 := hB5.trans (hb6.mono (by omega))
                have HZ6 := hid ((hb6.block w.heap.size (by omega)).trans HZ5.out)
                have HX6 := hid ((hb6.block X (by omega)).trans HX5.out)
                have HV6 := hid hv6
                have HL6 := hid (HB.out.frame (w' := w6) (fun _ h => h) (fun q hq hl => hB6.block q (hF q hq)))
                have HI6 := hid (HI5.out.frame (w' := w6) (fun _ h => h) (fun q hq _ => hb6.block q (by omega)))
                obtain ⟨ad6, cp6, rfl, hv61, hv62, _⟩ := hv6
                generalize (encode nameOk y).1 = el at *
                generalize (encode nameOk y).2 = ee at *
                clear hb6 HZ5 HX5 HI5 y0 y1 x0 x1 f0 f1 z0 z1 hB5
                obtain ⟨y0, y1⟩ := twocells HZ6.out
                obtain ⟨x0, x1⟩ := twocells HX6.out
                have f0 := free_box (i := 0) HZ6.out
                have f1 := free_box (i := 1) HZ6.out
                by_cases he : ee = 0
                · subst he
                  by_cases hm : el = l
                  · have hd := hid (HD6.out.trans (if_neg (by rw [hm]; simp)))
                    subst hm
                    go_wp2_with (go_at_call 31; go_loud (refine (equal_any HV6.out.bytes HL6.out.bytes).mono ?_; rw [show decide (el = el) = true from decide_eq_true rfl]; rintro e w7 ⟨rfl, rfl⟩))
                    refine bodyPost_ret (results_cell_one (ty := 25) rfl _ _ w.heap.size 25 _ (0, 0) _ rfl (two_end HZ6.out) Try.underlying25 rfl (by kernel_rfl)) rfl ?_
                    rw [hd.out]
                    exact ⟨(hB6.setCell (Nat.le_refl _) _).setCell (Nat.le_refl _) _, _, _, rfl, HI6.out.frame (fun q hq => by omega) (fun q hq _ => (heap_setCell_other _ _ _ _ (by simp; omega)).trans (heap_setCell_other _ _ _ _ (by simp; omega))), HLENS.out⟩
                  · have hd := hid (HD6.out.trans (if_pos (.inr hm)))
                    have hmb : decide (el = l) = false := decide_eq_false hm
                    go_wp2_with (go_at_call 31; go_loud (refine (equal_any HV6.out.bytes HL6.out.bytes).mono ?_; rw [hmb]; rintro e w7 ⟨rfl, rfl⟩))
                    exact bodyPost_ret (results_cell_one (ty := 25) rfl _ _ w.heap.size 25 _ (0, 0) _ rfl (two_end HZ6.out) Try.underlying25 rfl (by kernel_rfl)) rfl (by rw [hd.out]; exact ⟨(hB6.setCell (Nat.le_refl _) _).setCell (Nat.le_refl _) _, rfl⟩)
                · have hd := hid (HD6.out.trans (if_pos (.inl he)))
                  go_wp2_with fail
                  exact bodyPost_ret (results_cell_one (ty := 25) rfl _ _ w.heap.size 25 _ (0, 0) _ rfl (two_end HZ6.out) Try.underlying25 rfl (by kernel_rfl)) rfl (by rw [hd.out]; exact ⟨(hB6.setCell (Nat.le_refl _) _).setCell (Nat.le_refl _) _, rfl⟩)
            · have hd := hid (HD5.out.trans (if_pos (by rw [hbad]; simp)))
              rw [hbad] at z1
              go_wp2_with fail
              exact bodyPost_ret (results_cell_one (ty := 25) rfl _ _ w.heap.size 25 _ (0, 0) _ rfl (two_end HZ5.out) Try.underlying25 rfl (by kernel_rfl)) rfl (by rw [hd.out]; exact ⟨(hB5.setCell (Nat.le_refl _) _).setCell (Nat.le_refl _) _, rfl⟩)
          · have hd := hid (HD4.out.trans (if_pos hsm))
            have hsm' : ¬ (sumL (l.drop 9) : Int) = 256 * byteAt l 7 + byteAt l 8 := by omega
            go_wp2_with fail
            exact bodyPost_ret (results_cell_one (ty := 25) rfl _ _ w.heap.size 25 _ (0, 0) _ rfl (two_end HZ2.out) Try.underlying25 rfl (by kernel_rfl)) rfl (by rw [hd.out]; exact ⟨(hB2.setCell (Nat.le_refl _) _).setCell (Nat.le_refl _) _, rfl⟩)
end Go.Proofs.Ytdokeelodcckoaa.Im
