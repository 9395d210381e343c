/-
  The reference's Decode.
-/
import Derived.Test.YtdokeelodcckoaaRs6
import Derived.Test.YtdokeelodcckoaaRrLN
import Derived.Test.YtdokeelodcckoaaImgRf
namespace Go.Proofs.Ytdokeelodcckoaa.Im
open Go.RowKit Go.Lib

theorem wrap_big {z : Int} (h0 : 0 ≤ z) (h1 : z < 1000000000000) : IntKind.i64.wrap z = z := by rw [IntKind.wrap_i64]; omega
set_option maxRecDepth 100000 in
set_option maxHeartbeats 4000000 in
theorem rdecode_any {F : Nat → Prop} {w : World} {v : Value} {l : List B} (h : BytesC F w v l) (hF : ∀ g, F g → g < w.heap.size) (hl60 : l.length ≤ 60000) :
    Calls Try.prog 17 #[v] w (DecPost w (decodeR nameOk l)) := by
  have HB := hid h
  obtain ⟨ad, cp, rfl, h1, h2, h3⟩ := h
  unfold maxLen at h2
  by_cases h9 : l.length < 9
  · have hd := hid (show decodeR nameOk l = .error 6 by unfold decodeR; rw [if_pos h9])
    have h9' : (l.length : Int) < 9 := by omega
    clear h9
    go_enter Try.func17, Try.ntmps17
    go_wp2_with fail
    refine bodyPost_ret (results_cell_one (ty := 25) rfl _ _ w.heap.size 25 _ (0, 0) _ rfl (heap_alloc_new _ _) Try.underlying25 rfl (by kernel_rfl)) rfl ?_
    rw [hd.out]
    exact ⟨(Below.refl _ w).alloc (Nat.le_refl _) _, rfl⟩
  · have h9' : ¬ (l.length : Int) < 9 := by omega
    have hne : l ≠ [] := by intro e; subst e; simp at h9
    obtain ⟨g, off, rfl, hg, hc⟩ := h3 hne
    have hlg : g < w.heap.size := hF g hg
    have cl : ∀ i, i < l.length → w.cell? ⟨g, off + i, none⟩ = some (.int .u8 (byteAt l i)) := fun i hi => by
      obtain ⟨c, e1, e2⟩ := hc i hi
      rw [e1, e2, byteAt_get hi]
    have CL := hid (fun (W : World) (hW : W.heap[g]? = w.heap[g]?) (i : Nat) (hi : i < l.length) => (cell_heap hW).trans (cl i hi))
    have HC := hid hc
    clear hc cl hne h3
    go_enter Try.func17, Try.ntmps17
    go_upto_region 3 with fail
    have b3 := byteAt_lt l 3
    have b4 := byteAt_lt l 4
    have b5 := byteAt_lt l 5
    have b6 := byteAt_lt l 6
    have HX := hid (show ∀ i, byteAt l i = byteAt l i from fun _ => rfl)
    have a1 : IntKind.i64.wrap (16777216 * (byteAt l 3 : Int)) = 16777216 * (byteAt l 3 : Int) := wrap_big (by omega) (by omega)
    have a2 : IntKind.i64.wrap (65536 * (byteAt l 4 : Int)) = 65536 * (byteAt l 4 : Int) := wrap_big (by omega) (by omega)
    have a3 : IntKind.i64.wrap (16777216 * (byteAt l 3 : Int) + 65536 * (byteAt l 4 : Int)) = 16777216 * (byteAt l 3 : Int) + 65536 * (byteAt l 4 : Int) := wrap_big (by omega) (by omega)
    have a4 : IntKind.i64.wrap (256 * (byteAt l 5 : Int)) = 256 * (byteAt l 5 : Int) := wrap_big (by omega) (by omega)
    have a5 : IntKind.i64.wrap (16777216 * (byteAt l 3 : Int) + 65536 * (byteAt l 4 : Int) + 256 * (byteAt l 5 : Int)) = 16777216 * (byteAt l 3 : Int) + 65536 * (byteAt l 4 : Int) + 256 * (byteAt l 5 : Int) := wrap_big (by omega) (by omega)
    have a6 : IntKind.i64.wrap (16777216 * (byteAt l 3 : Int) + 65536 * (byteAt l 4 : Int) + 256 * (byteAt l 5 : Int) + (byteAt l 6 : Int)) = 16777216 * (byteAt l 3 : Int) + 65536 * (byteAt l 4 : Int) + 256 * (byteAt l 5 : Int) + (byteAt l 6 : Int) := wrap_big (by omega) (by omega)
    have a7 : IntKind.i64.wrap (byteAt l 3 : Int) = byteAt l 3 := wrap_big (by omega) (by omega)
    have a8 : IntKind.i64.wrap (byteAt l 4 : Int) = byteAt l 4 := wrap_big (by omega) (by omega)
    have a9 : IntKind.i64.wrap (byteAt l 5 : Int) = byteAt l 5 := wrap_big (by omega) (by omega)
    have a10 : IntKind.i64.wrap (byteAt l 6 : Int) = byteAt l 6 := wrap_big (by omega) (by omega)
    have c3 := CL.out (w.alloc (.cells #[.slice none 0 0, .slice none 0 0] 25)) (alloc_old hlg) 3 (by omega)
    have c4 := CL.out (w.alloc (.cells #[.slice none 0 0, .slice none 0 0] 25)) (alloc_old hlg) 4 (by omega)
    have c5 := CL.out (w.alloc (.cells #[.slice none 0 0, .slice none 0 0] 25)) (alloc_old hlg) 5 (by omega)
    have c6 := CL.out (w.alloc (.cells #[.slice none 0 0, .slice none 0 0] 25)) (alloc_old hlg) 6 (by omega)
    go_quiet (fail)
    have hB1 : Below w.heap.size w ((w.alloc (.cells #[.slice none 0 0, .slice none 0 0] 25)).drewN nq) := below_drewN ((Below.refl _ w).alloc (Nat.le_refl _) _) nq
    have HZ1 := hid (show ((w.alloc (.cells #[.slice none 0 0, .slice none 0 0] 25)).drewN nq).heap[w.heap.size]? = some (.cells #[.slice none 0 0, .slice none 0 0] 25 (0, 0)) from heap_alloc_new _ _)
    generalize (w.alloc (.cells #[.slice none 0 0, .slice none 0 0] 25)).drewN nq = w1 at *
    clear c3 c4 c5 c6 a1 a2 a3 a4 a5 a6 a7 a8 a9 a10
    have hB1g := hB1.block g hlg
    have c0 := CL.out w1 hB1g 0 (by omega)
    have c1 := CL.out w1 hB1g 1 (by omega)
    have c2 := CL.out w1 hB1g 2 (by omega)
    rw [Nat.add_zero] at c0
    have hT : 16777216 * (byteAt l 3 : Int) + 65536 * byteAt l 4 + 256 * byteAt l 5 + byteAt l 6 = (tells l : Int) := by unfold tells; omega
    rw [hT]
    have hHO : headOk l = (decide (byteAt l 0 = 87) && decide (byteAt l 1 = 72) && decide (byteAt l 2 = 1) && decide (tells l ≤ most)) := rfl
    have HD1 : Hid (decodeR nameOk l = if headOk l = false then .error 4 else if (l.drop 9).length < tells l then .error 6 else if tells l < (l.drop 9).length then .error 4 else if sumL (l.drop 9) ≠ 256 * byteAt l 7 + byteAt l 8 then .error 5 else if (imgR ⟨l.drop 9, false⟩).2.bad || (!(imgR ⟨l.drop 9, false⟩).2.b.isEmpty || !imgOk nameOk (imgR ⟨l.drop 9, false⟩).1) then .error 4 else .ok (imgR ⟨l.drop 9, false⟩).1) := hid (by unfold decodeR; rw [if_neg h9])
    clear b3 b4 b5 b6
    generalize tells l = T at *
    obtain ⟨y0, y1⟩ := twocells HZ1.out
    have f0 := free_box (i := 0) HZ1.out
    have f1 := free_box (i := 1) HZ1.out
    by_cases hh : headOk l = false
    · have hd := hid (HD1.out.trans (if_pos hh))
      clear HD1
      rw [hHO] at hh
      by_cases k0 : byteAt l 0 = 87
      · rw [k0] at c0
        by_cases k1 : byteAt l 1 = 72
        · rw [k1] at c1
          by_cases k2 : byteAt l 2 = 1
          · rw [k2] at c2
            have k3 : (1048576 : Int) < T := by
              have : ¬ T ≤ 1048576 := by simpa [k0, k1, k2, most] using hh
              omega
            clear hh hHO
            go_wp2_with fail
            exact bodyPost_ret (results_cell_one (ty := 25) rfl _ _ w.heap.size 25 _ (0, 0) _ rfl (two_end HZ1.out) Try.underlying25 rfl (by kernel_rfl)) rfl (by rw [hd.out]; exact ⟨(hB1.setCell (Nat.le_refl _) _).setCell (Nat.le_refl _) _, rfl⟩)
          · have k2' : ¬ (byteAt l 2 : Int) = 1 := by omega
            clear hh hHO
            go_wp2_with fail
            exact bodyPost_ret (results_cell_one (ty := 25) rfl _ _ w.heap.size 25 _ (0, 0) _ rfl (two_end HZ1.out) Try.underlying25 rfl (by kernel_rfl)) rfl (by rw [hd.out]; exact ⟨(hB1.setCell (Nat.le_refl _) _).setCell (Nat.le_refl _) _, rfl⟩)
        · have k1' : ¬ (byteAt l 1 : Int) = 72 := by omega
          clear hh hHO
          go_wp2_with fail
          exact bodyPost_ret (results_cell_one (ty := 25) rfl _ _ w.heap.size 25 _ (0, 0) _ rfl (two_end HZ1.out) Try.underlying25 rfl (by kernel_rfl)) rfl (by rw [hd.out]; exact ⟨(hB1.setCell (Nat.le_refl _) _).setCell (Nat.le_refl _) _, rfl⟩)
      · have k0' : ¬ (byteAt l 0 : Int) = 87 := by omega
        clear hh hHO
        go_wp2_with fail
        exact bodyPost_ret (results_cell_one (ty := 25) rfl _ _ w.heap.size 25 _ (0, 0) _ rfl (two_end HZ1.out) Try.underlying25 rfl (by kernel_rfl)) rfl (by rw [hd.out]; exact ⟨(hB1.setCell (Nat.le_refl _) _).setCell (Nat.le_refl _) _, rfl⟩)
    · have HD2 := hid (HD1.out.trans (if_neg hh))
      clear HD1
      rw [hHO] at hh
      have hh2 : byteAt l 0 = 87 ∧ byteAt l 1 = 72 ∧ byteAt l 2 = 1 ∧ T ≤ 1048576 := by
        simp only [Bool.and_eq_false_iff, not_or, Bool.not_eq_false, decide_eq_true_eq, most] at hh
        omega
      obtain ⟨k0, k1, k2, k3⟩ := hh2
      rw [k0] at c0
      rw [k1] at c1
      rw [k2] at c2
      have k3' : ¬ (1048576 : Int) < T := by omega
      clear hh hHO
      have hlen : (l.drop 9).length = l.length - 9 := by simp
      rw [hlen] at HD2
      have hlc : 9 ≤ l.length := by omega
      have w1' : IntKind.i64.wrap (9 + (T : Int)) = 9 + (T : Int) := wrap_big (by omega) (by omega)
      by_cases hs1 : l.length - 9 < T
      · have hd := hid (HD2.out.trans (if_pos hs1))
        have hs1' : (l.length : Int) < 9 + (T : Int) := by omega
        go_wp2_with fail
        exact bodyPost_ret (results_cell_one (ty := 25) rfl _ _ w.heap.size 25 _ (0, 0) _ rfl (two_end HZ1.out) Try.underlying25 rfl (by kernel_rfl)) rfl (by rw [hd.out]; exact ⟨(hB1.setCell (Nat.le_refl _) _).setCell (Nat.le_refl _) _, rfl⟩)
      · have HD3 := hid (HD2.out.trans (if_neg hs1))
        clear HD2
        have hs1' : ¬ (l.length : Int) < 9 + (T : Int) := by omega
        by_cases hs2 : T < l.length - 9
        · have hd := hid (HD3.out.trans (if_pos hs2))
          have hs2' : 9 + (T : Int) < (l.length : Int) := by omega
          go_wp2_with fail
          exact bodyPost_ret (results_cell_one (ty := 25) rfl _ _ w.heap.size 25 _ (0, 0) _ rfl (two_end HZ1.out) Try.underlying25 rfl (by kernel_rfl)) rfl (by rw [hd.out]; exact ⟨(hB1.setCell (Nat.le_refl _) _).setCell (Nat.le_refl _) _, rfl⟩)
        · have HD4 := hid (HD3.out.trans (if_neg hs2))
          clear HD3
          have hs2' : ¬ 9 + (T : Int) < (l.length : Int) := by omega
          go_upto_region 10 with fail
          clear y0 y1 f0 f1
          clear HC
          generalize hn : l.length = n at *
          go_cut [79] (fun v wx => v = .bool (!decide ((sumL (l.drop 9) : Int) = 256 * byteAt l 7 + byteAt l 8)) ∧ ∃ n, wx = w1.drewN n)
          case first =>
            have b7 := byteAt_lt l 7
            have b8 := byteAt_lt l 8
            have c7 := CL.out w1 hB1g 7 (by omega)
            have c8 := CL.out w1 hB1g 8 (by omega)
            have a1 : IntKind.i64.wrap (256 * (byteAt l 7 : Int)) = 256 * (byteAt l 7 : Int) := wrap_big (by omega) (by omega)
            have a2 : IntKind.i64.wrap (256 * (byteAt l 7 : Int) + (byteAt l 8 : Int)) = 256 * (byteAt l 7 : Int) + (byteAt l 8 : Int) := wrap_big (by omega) (by omega)
            have a3 : IntKind.i64.wrap (byteAt l 7 : Int) = byteAt l 7 := wrap_big (by omega) (by omega)
            have a4 : IntKind.i64.wrap (byteAt l 8 : Int) = byteAt l 8 := wrap_big (by omega) (by omega)
            have HCELL := hid (show ∀ o9, (n - 9 ≠ 0 → o9 = off + 9) → ∀ i (hi : i < (l.drop 9).length), w1.cell? ⟨g, o9 + i, none⟩ = some (bV (l.drop 9)[i]) from fun o9 ho9 i hi => by
              have hi9 : 9 + i < n := by rw [hlen] at hi; omega
              rw [ho9 (by omega), Nat.add_assoc, CL.out w1 hB1g (9 + i) hi9, ← byteAt_get (by omega), List.getElem_drop])
            have HCQ := hid (show ∀ o9, (n - 9 ≠ 0 → o9 = off + 9) → ∀ m : Nat, BytesIn (fun q => q = g) (w1.drewN m) (.slice (some ⟨g, o9, none⟩) (n - 9) (cp - 9)) (l.drop 9) from fun o9 ho9 m => ⟨_, _, by rw [hlen], by rw [hlen]; unfold maxLen; omega, fun _ => ⟨g, o9, rfl, rfl, fun i hi => ⟨_, HCELL.out o9 ho9 i hi, rfl⟩⟩⟩)
            by_cases hcp : cp = 9
            · subst hcp
              obtain rfl : n = 9 := by omega
              have HC0 := hid (show ∀ m : Nat, BytesIn (fun q => q = g) (w1.drewN m) (.slice (some ⟨g, off, none⟩) 0 0) (l.drop 9) from fun m => HCQ.out off (by omega) m)
              go_quiet ((go_at_call 15; exact quiet_same (sumR_any (HC0.out _))))
              go_wp2_with fail
              go_meet
              exact ⟨by first | rfl | (congr 1; simp), _, rfl⟩
            · go_quiet ((go_at_call 15; exact quiet_same (sumR_any (HCQ.out (off + 9) (fun _ => rfl) _))))
              go_wp2_with fail
              go_meet
              exact ⟨by first | rfl | (congr 1; simp), _, rfl⟩
          case rest =>
          obtain ⟨rfl, nq, rfl⟩ := hcut
          subst hn
          have hB2 := below_drewN hB1 nq
          have HZ2 := hid (show (w1.drewN nq).heap[w.heap.size]? = some (.cells #[.slice none 0 0, .slice none 0 0] 25 (0, 0)) from HZ1.out)
          generalize w1.drewN nq = w2 at *
          clear c0 c1 c2 HZ1 hB1 hB1g
          obtain ⟨y0, y1⟩ := twocells HZ2.out
          have f0 := free_box (i := 0) HZ2.out
          have f1 := free_box (i := 1) HZ2.out
          by_cases hsm : sumL (l.drop 9) = 256 * byteAt l 7 + byteAt l 8
          · have HD5 := hid (HD4.out.trans (if_neg (fun h => h hsm)))
            have hsm' : decide ((sumL (l.drop 9) : Int) = 256 * byteAt l 7 + byteAt l 8) = true := decide_eq_true (by omega)
            rw [hsm']
            clear HD4 hsm hsm'
            have hsz2 := hB2.size
            have hg2 := hB2.block g hlg
            have HRD := hid (show RfAt ⟨g, off, cp, l⟩ w2.heap.size (w2.alloc (.cells #[.slice (some ⟨g, off, none⟩) l.length cp, .int .i64 9, .bool false] 73)) ⟨l.drop 9, false⟩ from ⟨9, heap_alloc_new _ _, hl60, by show 9 ≤ l.length; omega, rfl, h1, by show cp ≤ maxLen; unfold maxLen; omega, fun i hi => (cell_heap (alloc_old (by show g < w2.heap.size; omega))).trans ((CL.out w2 hg2 i hi).trans (by rw [← byteAt_get hi]))⟩)
            have hB3 := hB2.alloc (by omega) (.cells #[.slice (some ⟨g, off, none⟩) l.length cp, .int .i64 9, .bool false] 73)
            have HZ3 := hid ((alloc_old (o := .cells #[.slice (some ⟨g, off, none⟩) l.length cp, .int .i64 9, .bool false] 73) (lt_of_heap HZ2.out)).trans HZ2.out)
            go_upto_region 14 with (go_at_call 32; refine (rimage_any HRD.out ⟨by show g ≠ _; omega, by show g < _; rw [World.size_alloc]; omega⟩).mono ?_; rintro e w4 ⟨va, vb, rfl, himg, hrd4, hkp4⟩; obtain ⟨ada, cpa, rfl, _, _⟩ := himg.rules; obtain ⟨adb, cpb, rfl, _, _⟩ := himg.classes)
            have HLENS := hid (imgR_few ⟨l.drop 9, false⟩)
            have hs4 := hkp4.size
            rw [World.size_alloc] at hs4
            have hB4 := hB3.trans ((hkp4.low (by rw [World.size_alloc]; omega)).mono (by omega))
            have HZ4 := hid ((hkp4.block w.heap.size (by rw [World.size_alloc]; have := lt_of_heap HZ2.out; omega) (by have := lt_of_heap HZ2.out; omega)).trans HZ3.out)
            generalize (imgR ⟨l.drop 9, false⟩).2 = rr at *
            generalize (imgR ⟨l.drop 9, false⟩).1 = y at *
            have HI5 := hid (himg.lt.frame (F' := fun q => w.heap.size + 1 ≤ q ∧ q < w4.heap.size) (w' := w4.alloc (.cells #[.slice ada y.rules.length cpa, .slice adb y.classes.length cpb] 25)) (fun q hq => by have := hq.1; rw [World.size_alloc] at this; have := lt_of_heap HZ4.out; omega) (fun q _ hl => alloc_old hl))
            have HR5 := hid (hrd4.alloc (.cells #[.slice ada y.rules.length cpa, .slice adb y.classes.length cpb] 25))
            have hB5 := hB4.alloc (by omega) (.cells #[.slice ada y.rules.length cpa, .slice adb y.classes.length cpb] 25)
            have HZ5 := hid ((alloc_old (o := (.cells #[.slice ada y.rules.length cpa, .slice adb y.classes.length cpb] 25)) (lt_of_heap HZ4.out)).trans HZ4.out)
            have HX5 := hid (heap_alloc_new w4 (.cells #[.slice ada y.rules.length cpa, .slice adb y.classes.length cpb] 25))
            have hs5 : (w4.alloc (.cells #[.slice ada y.rules.length cpa, .slice adb y.classes.length cpb] 25)).heap.size = w4.heap.size + 1 := World.size_alloc ..
            have hl4 := lt_of_heap HZ4.out
            generalize w4.alloc (.cells #[.slice ada y.rules.length cpa, .slice adb y.classes.length cpb] 25) = w5 at *
            generalize w4.heap.size = X at *
            generalize w2.heap.size = R at *
            clear himg hrd4 hB4 HZ4 hB2 HRD hkp4 hB3 HZ3 y0 y1 f0 f1 HZ2
            go_cut [103] (fun v wx => v = .bool (rr.bad || (!rr.b.isEmpty || !imgOk nameOk y)) ∧ Below w5.heap.size w5 wx)
            case first =>
              obtain ⟨a, k1, k2, k3, k4, k5, k6, k7⟩ := HR5.out
              obtain ⟨z0, z1, z2⟩ := three_cells k1
              obtain ⟨x0, x1⟩ := twocells HX5.out
              simp only at k3 k4
              cases hbad : rr.bad
              · rw [hbad] at z2
                by_cases ha : a = l.length
                · have he : rr.b.isEmpty = true := by rw [k4, ha, List.drop_length]; rfl
                  subst ha
                  go_wp2_with (go_at_call 25; refine (imgRight_any HI5.out (fun q hq => by omega) HLENS.out.1 HLENS.out.2).mono ?_; rintro e w6 ⟨rfl, hb6⟩)
                  go_meet
                  exact ⟨by rw [hbad, he]; rfl, hb6⟩
                · have he : rr.b.isEmpty = false := by
                    have hl : 0 < rr.b.length := by rw [k4, List.length_drop]; omega
                    cases h : rr.b with
                    | nil => rw [h] at hl; simp at hl
                    | cons => rfl
                  have ha' : ¬ (a : Int) = (l.length : Int) := by omega
                  go_wp2_with fail
                  go_meet
                  exact ⟨by rw [hbad, he]; rfl, Below.refl _ _⟩
              · rw [hbad] at z2
                go_wp2_with fail
                go_meet
                exact ⟨by rw [hbad]; rfl, Below.refl _ _⟩
            case rest =>
              obtain ⟨rfl, hb6⟩ := hcut
              have hB6 := hB5.trans (hb6.mono (by omega))
              have HZ6 := hid ((hb6.block w.heap.size (by omega)).trans HZ5.out)
              have HX6 := hid ((hb6.block X (by omega)).trans HX5.out)
              have HI6 := hid (HI5.out.frame (w' := wc) (fun _ h => h) (fun q hq _ => hb6.block q (by omega)))
              obtain ⟨y0, y1⟩ := twocells HZ6.out
              obtain ⟨x0, x1⟩ := twocells HX6.out
              have f0 := free_box (i := 0) HZ6.out
              have f1 := free_box (i := 1) HZ6.out
              clear hb6
              cases hc : (rr.bad || (!rr.b.isEmpty || !imgOk nameOk y))
              · have hd := hid (HD5.out.trans (if_neg (by rw [hc]; simp)))
                go_wp2_with fail
                refine bodyPost_ret (results_cell_one (ty := 25) rfl _ _ w.heap.size 25 _ (0, 0) _ rfl (two_end HZ6.out) Try.underlying25 rfl (by kernel_rfl)) rfl ?_
                rw [hd.out]
                exact ⟨(hB6.setCell (Nat.le_refl _) _).setCell (Nat.le_refl _) _, _, _, rfl, HI6.out.frame (fun q hq => by omega) (fun q hq _ => (heap_setCell_other _ _ _ _ (by simp; omega)).trans (heap_setCell_other _ _ _ _ (by simp; omega))), HLENS.out.1⟩
              · have hd := hid (HD5.out.trans (if_pos hc))
                go_wp2_with fail
                exact bodyPost_ret (results_cell_one (ty := 25) rfl _ _ w.heap.size 25 _ (0, 0) _ rfl (two_end HZ6.out) Try.underlying25 rfl (by kernel_rfl)) rfl (by rw [hd.out]; exact ⟨(hB6.setCell (Nat.le_refl _) _).setCell (Nat.le_refl _) _, rfl⟩)
          · have hd := hid (HD4.out.trans (if_pos hsm))
            have hsm' : decide ((sumL (l.drop 9) : Int) = 256 * byteAt l 7 + byteAt l 8) = false := decide_eq_false (by omega)
            rw [hsm']
            go_wp2_with fail
            exact bodyPost_ret (results_cell_one (ty := 25) rfl _ _ w.heap.size 25 _ (0, 0) _ rfl (two_end HZ2.out) Try.underlying25 rfl (by kernel_rfl)) rfl (by rw [hd.out]; exact ⟨(hB2.setCell (Nat.le_refl _) _).setCell (Nat.le_refl _) _, rfl⟩)
end Go.Proofs.Ytdokeelodcckoaa.Im
