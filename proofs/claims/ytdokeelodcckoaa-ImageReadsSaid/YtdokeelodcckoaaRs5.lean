/-
  The reference's reader: transducer, the walk.
-/
import Derived.Test.YtdokeelodcckoaaRs34
namespace Go.Proofs.Ytdokeelodcckoaa.Im
open Go.RowKit Go.Lib

theorem sstatesR_step (n : Nat) {r : Rd} (hb : r.bad = false) : sstatesR (n + 1) r = ((sstateR r).1 :: (sstatesR n (sstateR r).2).1, (sstatesR n (sstateR r).2).2) := by simp only [sstatesR, hb]; simp
theorem sstatesR_bad (n : Nat) {r : Rd} (hb : r.bad = true) : sstatesR n r = ([], r) := by
  cases n with
  | zero => rfl
  | succ n => simp [sstatesR, hb]
def RSqPost (S : Src) (R : Nat) (w : World) (x : Sq × Rd) (e : Ending) (w' : World) : Prop :=
  ∃ f a b c d, e = .returned (.agg #[f, a, b, c, d]) ∧ SqIn (fun g => w.heap.size ≤ g) w' f a b c d x.1 ∧ RfAt S R w' x.2 ∧ Kp R w w'
def finSq (fr : List B) (y : List SRow × Rd) : Sq × Rd := (⟨fr, y.1.map (·.next), y.1.map (·.outs), y.1.map (·.fin), y.1.map (·.tail)⟩, y.2)

set_option maxRecDepth 100000 in
set_option maxHeartbeats 4000000 in
theorem rseq_any {S : Src} {R : Nat} {w : World} {r : Rd} (h : RfAt S R w r) (hg : S.g ≠ R ∧ S.g < w.heap.size) :
    Calls Try.prog 56 #[.pointer (some ⟨R, 0, none⟩)] w (RSqPost S R w (sqR r)) := by
  have hlt := h.lt
  have HR := hid h
  have HGn := hid hg.1
  have hgb := hg.2
  clear h hg
  go_enter Try.func56, Try.ntmps56
  go_wp2_with fail
  refine (rtxt_any (HR.out.alloc _) HGn.out).mono ?_
  rintro e w1 ⟨rfl, hrd1, hkp1⟩
  have HRD1 := hid hrd1
  have HKP1 := hid (((Kp.refl R w).alloc _).trans hkp1)
  have HZ1 := hid ((hkp1.block w.heap.size (by simp) (by omega)).trans (heap_alloc_new _ _))
  clear hrd1 hkp1
  have HA := hid (show sqR r = finSq (txtR r).1 (sstatesR (numR (txtR r).2).1 ⟨(numR (txtR r).2).2.b, (numR (txtR r).2).2.bad || decide (1024 < (numR (txtR r).2).1)⟩) from rfl)
  generalize (txtR r).1 = fr at *
  generalize (txtR r).2 = r1 at *
  go_wp2_with fail
  refine (rnum_any (HRD1.out.alloc _) HGn.out).mono ?_
  rintro e w2 ⟨rfl, hrd2, hkp2⟩
  have hsz1 := lt_of_heap HZ1.out
  have HRD2 := hid hrd2
  have HKP2 := hid ((HKP1.out.alloc _).trans hkp2)
  have HZ2 := hid ((hkp2.block w.heap.size (by simp; omega) (by omega)).trans ((alloc_old (lt_of_heap HZ1.out)).trans HZ1.out))
  have HD2 := hid ((hkp2.block w1.heap.size (by simp) (by omega)).trans (heap_alloc_new _ _))
  clear hrd2 hkp2
  have hs16 := numR_lt r1
  generalize (numR r1).1 = s at *
  generalize (numR r1).2 = r2 at *
  generalize hD : w1.heap.size = D at *
  have hDw : w.heap.size < D := hsz1
  clear HZ1 HRD1 HKP1 hsz1
  obtain ⟨i0, hi, hz0, hz1, hz2⟩ := info_parts infoI
  have HI := hid hi
  have HZI := hid (And.intro hz0 (And.intro hz1 hz2))
  clear hi hz0 hz1 hz2
  obtain ⟨j0, hi, hz0, hz1, hz2⟩ := info_parts infoL
  have HJ := hid hi
  have HZJ := hid (And.intro hz0 (And.intro hz1 hz2))
  clear hi hz0 hz1 hz2
  obtain ⟨m0, hi, hz0, hz1, hz2⟩ := info_parts infoR
  have HM := hid hi
  have HZM := hid (And.intro hz0 (And.intro hz1 hz2))
  clear hi hz0 hz1 hz2
  obtain ⟨p0, hi, hz0, hz1, hz2⟩ := info_parts infoS
  have HP := hid hi
  have HZP := hid (And.intro hz0 (And.intro hz1 hz2))
  clear hi hz0 hz1 hz2
  obtain ⟨t0, hi, hz0, hz1, hz2⟩ := info_parts infoT
  have HT := hid hi
  have HZT := hid (And.intro hz0 (And.intro hz1 hz2))
  clear hi hz0 hz1 hz2
  obtain ⟨r3, hr3⟩ : ∃ r3 : Rd, r3 = ⟨r2.b, r2.bad || decide (1024 < s)⟩ := ⟨_, rfl⟩
  have HR3 := hid hr3
  have HA3 := hid (show sqR r = finSq fr (sstatesR s r3) by rw [HA.out, hr3])
  clear hr3 HA
  obtain ⟨z2, f2⟩ := HRD2.out.cells
  go_upto_if 16 with fail
  go_cut [] (fun wx => RfAt S R wx r3 ∧ Kp R w2 wx)
  case first =>
    by_cases ha : 1024 < s
    · have HE := hid (HR3.out.trans (show _ = (⟨r2.b, true⟩ : Rd) by rw [decide_eq_true ha, Bool.or_true]))
      have ha' : (1024 : Int) < s := by omega
      clear ha
      go_wp2
      go_meet
      rw [HE.out]
      exact ⟨HRD2.out.setBad HGn.out, (Kp.refl R w2).set 2 _⟩
    · have HE := hid (HR3.out.trans (show _ = r2 by rw [decide_eq_false ha, Bool.or_false]))
      have ha' : ¬ (1024 : Int) < s := by omega
      clear ha
      go_wp2
      go_meet
      rw [HE.out]
      exact ⟨HRD2.out, Kp.refl R w2⟩
  case rest =>
    obtain ⟨hrd4, hkp4⟩ := hcut
    have h0 : SqSt S R D w w2 fr (.slice none 0 0) (.slice none 0 0) (.slice none 0 0) (.slice none 0 0) 0 0 0 0 [] [] [] [] [] [] [] [] r2 :=
      ⟨HD2.out, World.ownsRow_nil _ _ _ _, World.ownsRow_nil _ _ _ _, World.ownsRow_nil _ _ _ _, World.ownsRow_nil _ _ _ _, Lst.nil _ _, Lst.nil _ _, HRD2.out, HKP2.out, HZ2.out, (fun x hx => by cases hx), ⟨by omega, by omega, hDw⟩⟩
    have HS0 := hid (h0.call hrd4 hkp4)
    clear h0 hrd4 hkp4 HD2 HZ2 HKP2 HRD2 z2 f2 HR3
    go_wp2_with fail
    go_loopw [5] (fun v wr => ∃ (k : Nat) (rows : List SRow) (nv ov : List Value) (va vb vc vd : Value) (rk : Rd), k ≤ s ∧ v = .int .i64 k ∧ SqSt S R D w wr fr va vb vc vd k k k k nv ov (rows.map (·.fin)) (rows.map (·.tail)) nv ov (rows.map (·.next)) (rows.map (·.outs)) rk ∧ Hid (sstatesR s r3 = (rows ++ (sstatesR (s - k) rk).1, (sstatesR (s - k) rk).2))) (fun v _ => s - (intOf v).toNat)
    case atStart => exact ⟨0, [], [], [], .slice none 0 0, .slice none 0 0, .slice none 0 0, .slice none 0 0, r3, Nat.zero_le _, rfl, HS0.out, hid (by simp)⟩
    case round =>
      clear HS0
      obtain ⟨k, rows, nv, ov, va, vb, vc, vd, rk, hk, rfl, hS, hst⟩ := hrel
      obtain ⟨ada, cpa, rfl⟩ := own_shape hS.on
      obtain ⟨adb, cpb, rfl⟩ := own_shape hS.oo
      obtain ⟨adc, cpc, rfl⟩ := own_shape hS.oe
      obtain ⟨ade, cpe, rfl⟩ := own_shape hS.ot
      obtain ⟨z2, zf⟩ := hS.rd.cells
      have HS := hid hS
      clear hS
      obtain ⟨hlts, hbad⟩ | hstop : ((k : Int) < (s : Int) ∧ rk.bad = false) ∨ (k = s ∨ (k : Int) < (s : Int) ∧ rk.bad = true) := by
        rcases Nat.lt_or_ge k s with h | h
        · cases hb : rk.bad
          · exact .inl ⟨Int.ofNat_lt.2 h, rfl⟩
          · exact .inr (.inr ⟨Int.ofNat_lt.2 h, rfl⟩)
        · exact .inr (.inl (by omega))
      · have HST := hid (hst.out.trans (show (rows ++ (sstatesR (s - k) rk).1, (sstatesR (s - k) rk).2) = (rows ++ [(⟨(rowR (tailR (bitR rk).1 (bitR rk).2).2).1.1, (rowR (tailR (bitR rk).1 (bitR rk).2).2).1.2, (bitR rk).1, (tailR (bitR rk).1 (bitR rk).2).1⟩ : SRow)] ++ (sstatesR (s - (k + 1)) (rowR (tailR (bitR rk).1 (bitR rk).2).2).2).1, (sstatesR (s - (k + 1)) (rowR (tailR (bitR rk).1 (bitR rk).2).2).2).2) by
          rw [show s - k = (s - (k + 1)) + 1 by omega, sstatesR_step _ hbad, List.append_assoc]
          rfl))
        have hk9 : k + 1 ≤ maxLen := by unfold maxLen; omega
        have hk24 : (k + 1) * 24 ≤ 140737488355328 := by omega
        have hk16 : (k + 1) * 16 ≤ 140737488355328 := by omega
        have hk1 : (k + 1) * 1 ≤ 140737488355328 := by omega
        rw [hbad] at z2
        clear hbad hst zf
        go_upto_if 34 with (go_at_call 54; refine (rbit_any HS.out.rd HGn.out).mono ?_; rintro e w6 ⟨rfl, hrd6, hkp6⟩; have HS6 := hid (HS.out.call hrd6 hkp6); clear hrd6 hkp6)
        clear HS z2
        generalize (bitR rk).1 = en at *
        generalize (bitR rk).2 = r6 at *
        go_cut [7] (fun v wx => v = sV (tailR en r6).1 ∧ SqSt S R D w wx fr (.slice ada k cpa) (.slice adb k cpb) (.slice adc k cpc) (.slice ade k cpe) k k k k nv ov (rows.map (·.fin)) (rows.map (·.tail)) nv ov (rows.map (·.next)) (rows.map (·.outs)) (tailR en r6).2)
        case first =>
          cases en
          · go_wp2
            go_meet
            exact ⟨rfl, HS6.out⟩
          · go_wp2_with (go_at_call 57; refine (rtxt_any HS6.out.rd HGn.out).mono ?_; rintro e w7 ⟨rfl, hrd7, hkp7⟩; have HS7 := hid (HS6.out.call hrd7 hkp7); clear hrd7 hkp7)
            go_meet
            exact ⟨rfl, HS7.out⟩
        case rest =>
        obtain ⟨rfl, hS7⟩ := hcut
        have HS7 := hid hS7
        clear hS7 HS6
        generalize (tailR en r6).2 = r7 at *
        generalize (tailR en r6).1 = tl at *
        go_upto_region 13 with (go_at_call 72; refine (rrow_any HS7.out.rd ⟨HGn.out, by have := HS7.out.kp.size; omega⟩).mono ?_; rintro e w8 ⟨u8, v8, rfl, hu8, hv8, hrd8, hkp8⟩; have HS8 := hid ((HS7.out.call hrd8 hkp8).rows hu8 hv8 (lt_of_heap HS7.out.hd) (fun g hg => (own_lt HS7.out.ot hg).2)); obtain ⟨au, cu, rfl⟩ := own_shape hu8; obtain ⟨av, cv, rfl⟩ := own_shape hv8; clear hrd8 hkp8 hu8 hv8; obtain ⟨q0, q1, q2, q3, q4⟩ := scells HS8.out.hd; have hl8 := lt_of_heap HS8.out.hd)
        clear HS7
        generalize (rowR r7).1.1 = ns at *
        generalize (rowR r7).1.2 = os at *
        generalize (rowR r7).2 = r8 at *
        clear q0 q1 q2 q3 q4
        obtain ⟨q0, q1, q2, q3, q4⟩ := scells HS8.out.hd
        go_upto_region 14 with (at_builtin; refine wpList_append_lies _ rfl _ _ 44 rfl (D + 1) 4 j0 (.bool false) 1 1 Try.underlying44 HJ.out HZJ.out.1 HZJ.out.2.1 HZJ.out.2.2 rfl Nat.one_pos _ _ _ rfl (HS8.out.oe.alloc _) ⟨w8.heap.size, 0, none⟩ 1 1 [.bool en] rfl rfl (cell_one_new _ _ _) (one_cell_one rfl) Nat.one_pos hk9 hk1 (le_alloc hl8) _ rfl ?_; intro g3 c3 w9 hown hgrow hat hlg; have hd3 := (HS8.out.low (i := 3) (u := undef) HS8.out.oe hgrow).2.trans HS8.out.hd; obtain ⟨y0, y1, y2, y3, y4⟩ := scells hd3; have f3 := free_box (i := 3) hd3; have HS9 := hid (HS8.out.addE hgrow hown); clear hown hgrow hd3)
        clear HS8 y0 y1 y2 y3 y4 f3 hat hlg
        have hl8' := lt_of_heap HS9.out.hd
        generalize w9.setCell ⟨D, 3, none⟩ (.slice (some ⟨g3, 0, none⟩) (k + 1) c3) = w9' at *
        obtain ⟨q0, q1, q2, q3, q4⟩ := scells HS9.out.hd
        go_upto_region 15 with (at_builtin; refine wpList_append_lies _ rfl _ _ 48 rfl (D + 1) 9 p0 (.string ⟨#[]⟩) 1 16 Try.underlying48 HP.out HZP.out.1 HZP.out.2.1 HZP.out.2.2 rfl Nat.one_pos _ _ _ rfl (HS9.out.ot.alloc _) ⟨w9'.heap.size, 0, none⟩ 1 1 [sV tl] rfl rfl (cell_one_new _ _ _) (one_cell_one rfl) Nat.one_pos hk9 hk16 (le_alloc hl8') _ rfl ?_; intro g4 c4 w10 hown hgrow hat hlg; have hd4 := (HS9.out.low (i := 4) (u := undef) HS9.out.ot hgrow).2.trans HS9.out.hd; obtain ⟨y0, y1, y2, y3, y4⟩ := scells hd4; have f4 := free_box (i := 4) hd4; have HS10 := hid (HS9.out.addT hgrow hown (fun g hg => by cases hg; exact hat.imp id (fun h => by rw [h]; simp))); clear hown hgrow hd4)
        clear HS9 y0 y1 y2 y3 y4 f4 hat hlg
        have hl8'' := lt_of_heap HS10.out.hd
        generalize w10.setCell ⟨D, 4, none⟩ (.slice (some ⟨g4, 0, none⟩) (k + 1) c4) = w10' at *
        obtain ⟨q0, q1, q2, q3, q4⟩ := scells HS10.out.hd
        go_upto_region 16 with (at_builtin; refine wpList_append_lies _ rfl _ _ 43 rfl (D + 1) 42 m0 (.slice none 0 0) 1 24 Try.underlying43 HM.out HZM.out.1 HZM.out.2.1 HZM.out.2.2 rfl Nat.one_pos _ _ _ rfl (HS10.out.on.alloc _) ⟨w10'.heap.size, 0, none⟩ 1 1 [.slice au 256 cu] rfl rfl (cell_one_new _ _ _) (one_cell_one rfl) Nat.one_pos hk9 hk24 (le_alloc hl8'') _ rfl ?_; intro g1 c1 w11 hown hgrow hat hlg; have hd1 := (HS10.out.low (i := 1) (u := undef) HS10.out.on hgrow).2.trans HS10.out.hd; obtain ⟨y0, y1, y2, y3, y4⟩ := scells hd1; have f1 := free_box (i := 1) hd1; have HS11 := hid (HS10.out.addN hgrow hown); clear hown hgrow hd1)
        clear HS10 y0 y1 y2 y3 y4 f1 hat hlg
        have hl8''' := lt_of_heap HS11.out.hd
        generalize w11.setCell ⟨D, 1, none⟩ (.slice (some ⟨g1, 0, none⟩) (k + 1) c1) = w11' at *
        obtain ⟨q0, q1, q2, q3, q4⟩ := scells HS11.out.hd
        go_wp2_with (at_builtin; refine wpList_append_lies _ rfl _ _ 47 rfl (D + 1) 48 t0 (.slice none 0 0) 1 24 Try.underlying47 HT.out HZT.out.1 HZT.out.2.1 HZT.out.2.2 rfl Nat.one_pos _ _ _ rfl (HS11.out.oo.alloc _) ⟨w11'.heap.size, 0, none⟩ 1 1 [.slice av 256 cv] rfl rfl (cell_one_new _ _ _) (one_cell_one rfl) Nat.one_pos hk9 hk24 (le_alloc hl8''') _ rfl ?_; intro g2 c2 w12 hown hgrow hat hlg; have hd2 := (HS11.out.low (i := 2) (u := undef) HS11.out.oo hgrow).2.trans HS11.out.hd; obtain ⟨y0, y1, y2, y3, y4⟩ := scells hd2; have f2 := free_box (i := 2) hd2; have HS12 := hid (HS11.out.addO hgrow hown); clear hown hgrow hd2)
        refine And.intro ?_ ?_
        · refine ⟨k + 1, rows ++ [⟨ns, os, en, tl⟩], nv ++ [.slice au 256 cu], ov ++ [.slice av 256 cv], .slice (some ⟨g1, 0, none⟩) (k + 1) c1, .slice (some ⟨g2, 0, none⟩) (k + 1) c2, .slice (some ⟨g3, 0, none⟩) (k + 1) c3, .slice (some ⟨g4, 0, none⟩) (k + 1) c4, r8, by omega, by go_num, ?_, HST⟩
          simp only [List.map_append, List.map_cons, List.map_nil]
          exact HS12.out
        · simp [intOf]; omega
      · have HFIN := hid (show sqR r = (⟨fr, rows.map (·.next), rows.map (·.outs), rows.map (·.fin), rows.map (·.tail)⟩, rk) by
          rw [HA3.out]
          have h := hst.out
          rcases hstop with rfl | ⟨_, hbad⟩
          · rw [Nat.sub_self] at h; rw [h]; simp [sstatesR, finSq]
          · rw [sstatesR_bad _ hbad] at h; rw [h]; simp [finSq])
        clear hst
        obtain ⟨q0, q1, q2, q3, q4⟩ := scells HS.out.hd
        obtain ⟨e0, e1, e2, e3, e4⟩ := scells HS.out.hz
        have f0 := free_box (i := 0) HS.out.hz
        have f1 := free_box (i := 1) HS.out.hz
        have f2 := free_box (i := 2) HS.out.hz
        have f3 := free_box (i := 3) HS.out.hz
        have f4 := free_box (i := 4) HS.out.hz
        rcases hstop with rfl | ⟨hlts, hbad⟩
        all_goals try rw [hbad] at z2
        all_goals try clear hbad
        all_goals
          go_wp2_with fail
          refine bodyPost_ret (results_cell_row (ty := 50) rfl _ _ w.heap.size 50 _ (0, 0) _ rfl (five_end HS.out.hz) Try.underlying50 rfl (by kernel_rfl)) rfl ?_
          rw [HFIN.out]
          exact ⟨_, _, _, _, _, rfl, sq_end (by omega) HS.out.on HS.out.oo HS.out.oe HS.out.ot HS.out.ln HS.out.lo, HS.out.rd.below below_sEnd hlt hgb, HS.out.kp.below below_sEnd⟩
end Go.Proofs.Ytdokeelodcckoaa.Im
