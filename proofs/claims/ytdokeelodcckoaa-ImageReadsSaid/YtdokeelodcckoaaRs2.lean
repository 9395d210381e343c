/-
  The reference's reader: automaton.
-/
import Derived.Test.YtdokeelodcckoaaRs1
import Derived.Test.YtdokeelodcckoaaRg3
import Derived.Test.YtdokeelodcckoaaImgRb
namespace Go.Proofs.Ytdokeelodcckoaa.Im
open Go.RowKit Go.Lib

theorem statesR_step (k n : Nat) {r : Rd} (hb : r.bad = false) : statesR k (n + 1) r = (((bitR r).1 :: (statesR k n (numsR k (bitR r).2).2).1.1, (numsR k (bitR r).2).1 :: (statesR k n (numsR k (bitR r).2).2).1.2), (statesR k n (numsR k (bitR r).2).2).2) := by simp only [statesR, hb]; simp
theorem statesR_bad (k n : Nat) {r : Rd} (hb : r.bad = true) : statesR k n r = (([], []), r) := by
  cases n with
  | zero => rfl
  | succ n => simp [statesR, hb]
theorem numsR_step (k : Nat) {r : Rd} (hb : r.bad = false) : numsR (k + 1) r = (((numR r).1 : Int) :: (numsR k (numR r).2).1, (numsR k (numR r).2).2) := by simp only [numsR, hb]; simp
theorem numsR_bad (k : Nat) {r : Rd} (hb : r.bad = true) : numsR k r = ([], r) := by
  cases k with
  | zero => rfl
  | succ n => simp [numsR, hb]
theorem onesR_step (k : Nat) (r : Rd) : onesR (k + 1) r = (((one1 r).1 : Int) :: (onesR k (one1 r).2).1, (onesR k (one1 r).2).2) := rfl
def finR (cl : List Int) (y : (List Bool × List (List Int)) × Rd) : Dfa × Rd := (⟨cl, y.1.2, y.1.1⟩, ⟨y.2.b, y.2.bad || !dfaOk ⟨cl, y.1.2, y.1.1⟩⟩)
def RAutoPost (S : Src) (R : Nat) (w : World) (x : Dfa × Rd) (e : Ending) (w' : World) : Prop :=
  ∃ a b c, e = .returned (.agg #[a, b, c]) ∧ DfaIn (fun g => w.heap.size ≤ g) w' a b c x.1 ∧ RfAt S R w' x.2 ∧ Kp R w w'
theorem rtag_b : (73 : TypeId) ≠ 4 := by decide
theorem rtag_i : (73 : TypeId) ≠ 3 := by decide
theorem rtag_r : (73 : TypeId) ≠ 42 := by decide

set_option maxRecDepth 100000 in
set_option maxHeartbeats 4000000 in
theorem rauto_any {S : Src} {R : Nat} {w : World} {r : Rd} (h : RfAt S R w r) (hg : S.g ≠ R ∧ S.g < w.heap.size) :
    Calls Try.prog 55 #[.pointer (some ⟨R, 0, none⟩)] w (RAutoPost S R w (autoR r)) := by
  have hlt := h.lt
  have HR := hid h
  have HGn := hid hg.1
  have hgb := hg.2
  clear h hg
  go_enter Try.func55, Try.ntmps55
  go_wp2_with fail
  refine (rnum_any ((HR.out.alloc _).alloc _) HGn.out).mono ?_
  rintro e w1 ⟨rfl, hrd1, hkp1⟩
  have HRD1 := hid hrd1
  have HKP1 := hid ((((Kp.refl R w).alloc _).alloc _).trans hkp1)
  have HD2 := hid ((hkp1.block w.heap.size (by simp; omega) (by omega)).trans (heap_alloc2_old _ _ _))
  have HD3 := hid ((hkp1.block (w.heap.size + 1) (by simp) (by omega)).trans (heap_alloc2_new _ _ _))
  have hs1 := hkp1.size
  clear hrd1 hkp1
  have hn16 := numR_lt r
  have HA := hid (show autoR r = finR (onesR 256 (numR (numR r).2).2).1 (statesR (numR (numR r).2).1 (numR r).1 ⟨(onesR 256 (numR (numR r).2).2).2.b, (onesR 256 (numR (numR r).2).2).2.bad || (decide (1024 < (numR r).1) || decide (256 < (numR (numR r).2).1))⟩) from rfl)
  generalize (numR r).2 = r1 at *
  generalize (numR r).1 = s at *
  go_wp2_with fail
  refine (rnum_any HRD1.out HGn.out).mono ?_
  rintro e w2 ⟨rfl, hrd2, hkp2⟩
  have HRD2 := hid hrd2
  have HKP2 := hid (HKP1.out.trans hkp2)
  have HD2b := hid ((hkp2.block _ (lt_of_heap HD2.out) (by omega)).trans HD2.out)
  have HD3b := hid ((hkp2.block _ (lt_of_heap HD3.out) (by omega)).trans HD3.out)
  clear hrd2 hkp2 HD2 HD3 HRD1
  have hc16 := numR_lt r1
  generalize (numR r1).2 = r2 at *
  generalize (numR r1).1 = c at *
  obtain ⟨i0, hi, hz0, hz1, hz2⟩ := info_parts infoI
  have HI := hid hi
  have HZ := hid (And.intro hz0 (And.intro hz1 hz2))
  clear hi hz0 hz1 hz2 hs1
  go_wp2_with fail
  go_loopw [6] (fun v wr => ∃ (k : Nat) (a : Value) (ns : List Int) (rk : Rd), k ≤ 256 ∧ v = .int .i64 k ∧ wr.heap[w.heap.size + 1]? = some (.cells #[a, .slice none 0 0, .slice none 0 0] 46 (0, 0)) ∧ wr.ownsRow (w.heap.size + 2) 3 1 a k (ns.map iV) ∧ RfAt S R wr rk ∧ Kp R w wr ∧ wr.heap[w.heap.size]? = some (.cells #[.slice none 0 0, .slice none 0 0, .slice none 0 0] 46 (0, 0)) ∧ Hid (onesR 256 r2 = (ns ++ (onesR (256 - k) rk).1, (onesR (256 - k) rk).2))) (fun v _ => 256 - (intOf v).toNat)
  case atStart => exact ⟨0, .slice none 0 0, [], r2, by omega, rfl, HD3b.out, World.ownsRow_nil _ _ _ _, HRD2.out, HKP2.out, HD2b.out, hid (by simp)⟩
  case round =>
    obtain ⟨k, a, ns, rk, hk, rfl, hd3, hown, hrd, hkp, hd2, hst⟩ := hrel
    obtain ⟨ada, cpa, rfl⟩ := own_shape hown
    obtain ⟨q0, q1, q2⟩ := dcells hd3
    have hszr := hkp.size
    have HD3 := hid hd3
    have HO := hid hown
    have HRr := hid hrd
    have HKPr := hid hkp
    have HD2 := hid hd2
    have hl3 := lt_of_heap hd3
    clear hd3 hown hrd hkp hd2
    by_cases hltk : k < 256
    · have HST : Hid (onesR 256 r2 = (ns ++ [((one1 rk).1 : Int)] ++ (onesR (256 - (k + 1)) (one1 rk).2).1, (onesR (256 - (k + 1)) (one1 rk).2).2)) := by
        have h := hst.out
        have e : onesR (256 - k) rk = (((one1 rk).1 : Int) :: (onesR (256 - (k + 1)) (one1 rk).2).1, (onesR (256 - (k + 1)) (one1 rk).2).2) := by rw [show 256 - k = (256 - (k + 1)) + 1 by omega]; rfl
        rw [e] at h
        exact hid (by rw [h]; simp)
      clear hst
      go_upto_region 7 with fail
      have Q := hid (show ∀ W : World, W.heap[w.heap.size + 1]? = wr.heap[w.heap.size + 1]? → W.cell? ⟨w.heap.size + 1, 0, none⟩ = some (.slice ada k cpa) from fun W hW => (cell_heap hW).trans q0)
      have hneR : w.heap.size + 1 ≠ R := by omega
      have hk9 : k + 1 ≤ maxLen := by unfold maxLen; omega
      have hk8 : (k + 1) * 8 ≤ 140737488355328 := by omega
      refine Till.start (S := fun W => W.cell? ⟨w.heap.size + 1, 0, none⟩ = some (.slice ada k cpa)) (n := 7) (by kernel_rfl) ?_
      refine Till.takePure (i := 0) (v := _) rfl (by kernel_rfl) (fun _ _ _ h => h) (Or.inl ⟨by rfl, fun w _ => by rfl⟩) (fun _ => q0) ?_
      try simp only [Act.put, List.setIfInBounds_toArray, List.set_cons_zero, List.set_cons_succ]
      refine Till.take (i := 1) (v := .slice ada k cpa) rfl (by kernel_rfl) (fun _ _ _ h => h) (Or.inl ⟨by rfl, fun w hS => by go_simp⟩) q0 ?_
      try simp only [Act.put, List.setIfInBounds_toArray, List.set_cons_zero, List.set_cons_succ]
      refine Till.takePure (i := 2) (v := _) rfl (by kernel_rfl) (fun _ _ _ h => h) (Or.inl ⟨by rfl, fun w _ => by rfl⟩) (fun _ => q0) ?_
      try simp only [Act.put, List.setIfInBounds_toArray, List.set_cons_zero, List.set_cons_succ]
      refine Till.all (rs := [3]) (by kernel_rfl) (by simp) (Each.cons rfl (fun K hK => ?_) Each.nil)
      go_simp
      go_at_call 71
      refine (rone_any (HRr.out.drew) HGn.out).mono ?_
      rintro e w5 ⟨rfl, hrd5, hkp5⟩
      have hd5 := hkp5.block _ hl3 hneR
      have hl5 := Nat.lt_of_lt_of_le hl3 hkp5.size
      have HO5 := hid (own_kp (own_drew HO.out) hkp5 (rtag HRr.out rtag_i))
      have HD5 := hid (hd5.trans HD3.out)
      have q5 := Q.out _ hd5
      refine hK.out _ _ (fun _ => q5) ?_
      clear hK K
      try simp only [Act.put, List.setIfInBounds_toArray, List.set_cons_zero, List.set_cons_succ]
      refine Till.all (rs := [4]) (by kernel_rfl) (by simp) (Each.cons rfl (fun K hK => ?_) Each.nil)
      go_simp
      refine hK.out _ _ (fun _ => (cell_heap (alloc_old hl5)).trans q5) ?_
      clear hK K
      try simp only [Act.put, List.setIfInBounds_toArray, List.set_cons_zero, List.set_cons_succ]
      refine Till.all (rs := [5]) (by kernel_rfl) (by simp) (Each.cons rfl (fun K hK => ?_) Each.nil)
      refine step_append_lies _ (by rfl) _ _ 42 rfl (w.heap.size + 2) 3 i0 (.int .i64 0) 1 8 Try.underlying42 HI.out HZ.out.1 HZ.out.2.1 HZ.out.2.2 rfl (by decide) (.slice ada k cpa) k (ns.map iV) rfl (HO5.out.alloc _) ⟨w5.heap.size, 0, none⟩ 1 1 [.int .i64 ((one1 rk).1 : Int)] rfl rfl (cell_one_new _ _ _) (one_cell_one rfl) Nat.one_pos hk9 hk8 (le_alloc hl5) _ rfl ?_
      intro g6 cap6 w6 hown6 hgrow6 hat6 hlt6
      have hd6 := (far_row HO5.out hgrow6 hl5 (Nat.lt_succ_self _)).trans hd5
      have HD6 := hid (hd6.trans HD3.out)
      have f6 := free_box (i := 0) HD6.out
      have q6 := Q.out _ hd6
      refine hK.out _ _ (fun _ => q6) ?_
      clear hK K
      try simp only [Act.put, List.setIfInBounds_toArray, List.set_cons_zero, List.set_cons_succ]
      refine Till.takePure (i := 6) (v := _) rfl (by kernel_rfl) (fun _ _ _ h => h) (Or.inl ⟨by rfl, fun w _ => by rfl⟩) (fun _ => q6) ?_
      try simp only [Act.put, List.setIfInBounds_toArray, List.set_cons_zero, List.set_cons_succ]
      refine Till.all (rs := [7]) (by kernel_rfl) (by simp) (Each.cons rfl (fun K hK => ?_) Each.nil)
      go_simp
      refine hK.out _ _ (fun h => absurd h (by decide)) ?_
      clear hK K
      try simp only [Act.put, List.setIfInBounds_toArray, List.set_cons_zero, List.set_cons_succ]
      refine Till.done (by kernel_rfl) ?_ _
      have hs5 : wr.heap.size ≤ w5.heap.size := hkp5.size
      have HOc6 := hid (own_set (i := 0) (u := .slice (some ⟨g6, 0, none⟩) (k + 1) cap6) hown6 HD6.out (by decide))
      have hb6 : Below w.heap.size w5 w6 := ((Below.refl _ w5).alloc (by omega) _).grown hgrow6 (by simp; omega) (fun q hq => by have := (HO5.out.lt q hq).1; omega)
      have hb6' := hid (hb6.setCell (p := ⟨w.heap.size + 1, 0, none⟩) (by simp) (.slice (some ⟨g6, 0, none⟩) (k + 1) cap6))
      have hRd6 := hid (hrd5.below hb6'.out hlt hgb)
      have hKp6 := hid ((HKPr.out.drew.trans hkp5).below hb6'.out)
      have hD6 := hid (three_set0 (.slice (some ⟨g6, 0, none⟩) (k + 1) cap6) HD6.out)
      have hD26 := hid (((heap_setCell_other w6 ⟨w.heap.size + 1, 0, none⟩ w.heap.size (.slice (some ⟨g6, 0, none⟩) (k + 1) cap6) (by simp)).trans ((hgrow6.block w.heap.size (by simp; omega) (fun e => by have := (HO5.out.lt _ e.symm).1; omega)).trans (alloc_old (by omega)))).trans ((hkp5.block w.heap.size (by show _ < wr.heap.size; omega) (by omega)).trans HD2.out))
      go_wp2
      go_roundw
      case rel =>
        refine ⟨k + 1, _, ns ++ [((one1 rk).1 : Int)], (one1 rk).2, by omega, by go_num, hD6.out, ?_, hRd6.out, hKp6.out, hD26.out, HST⟩
        rw [List.map_append]; exact HOc6.out
      case measure => simp [intOf]; omega
    · obtain rfl : k = 256 := by omega
      have HST := hid (show onesR 256 r2 = (ns, rk) by have h := hst.out; rw [Nat.sub_self] at h; rw [h]; simp [onesR])
      clear hst q0 q1 q2
      obtain ⟨r3, hr3⟩ : ∃ r3 : Rd, r3 = ⟨rk.b, rk.bad || (decide (1024 < s) || decide (256 < c))⟩ := ⟨_, rfl⟩
      have HR3 := hid hr3
      have HA3 := hid (show autoR r = finR ns (statesR c s r3) by rw [HA.out, HST.out, hr3])
      clear hr3 HA HST HD3b HD2b HRD2
      obtain ⟨z2, f2⟩ := HRr.out.cells
      go_upto_region 8 with fail
      go_cut [31] (fun v wx => v = .bool (decide (1024 < s) || decide (256 < c)) ∧ wr = wx)
      case first =>
        by_cases ha : 1024 < s
        · have ha' : (1024 : Int) < s := by omega
          go_wp2
          go_meet
          exact ⟨congrArg Value.bool (by rw [decide_eq_true ha, Bool.true_or]), rfl⟩
        · have ha' : ¬ (1024 : Int) < s := by omega
          go_wp2
          go_meet
          exact ⟨congrArg Value.bool (by rw [decide_eq_false ha, Bool.false_or]; exact decide_eq_decide.2 (by omega)), rfl⟩
      case rest =>
      obtain ⟨rfl, rfl⟩ := hcut
      go_upto_if 31 with fail
      go_cut [] (fun wx => RfAt S R wx r3 ∧ Kp R wr wx)
      case first =>
        cases hb : (decide (1024 < s) || decide (256 < c))
        · have HE := hid (HR3.out.trans (show _ = rk by rw [hb, Bool.or_false]))
          clear hb
          go_wp2
          go_meet
          rw [HE.out]
          exact ⟨HRr.out, Kp.refl R wr⟩
        · have HE := hid (HR3.out.trans (show _ = (⟨rk.b, true⟩ : Rd) by rw [hb, Bool.or_true]))
          clear hb
          go_wp2
          go_meet
          rw [HE.out]
          exact ⟨HRr.out.setBad HGn.out, (Kp.refl R wr).set 2 _⟩
      case rest =>
        obtain ⟨hrd4, hkp4⟩ := hcut
        have HR4 := hid hrd4
        have HK4 := hid (HKPr.out.trans hkp4)
        have HD3 := hid ((hkp4.block (w.heap.size + 1) hl3 (by omega)).trans HD3.out)
        have HD2 := hid ((hkp4.block w.heap.size (by omega) (by omega)).trans HD2.out)
        have HOa := hid (own_kp HO.out hkp4 (rtag HRr.out rtag_i))
        clear hrd4 hkp4 HO HRr HKPr HR3 z2 f2 hszr
        obtain ⟨j0, hj, hy0, hy1, hy2⟩ := info_parts infoL
        have HJ := hid hj
        have HY := hid (And.intro hy0 (And.intro hy1 hy2))
        obtain ⟨m0, hm, hm0, hm1, hm2⟩ := info_parts infoR
        have HM := hid hm
        have HMZ := hid (And.intro hm0 (And.intro hm1 hm2))
        clear hj hy0 hy1 hy2 hm hm0 hm1 hm2 hl3
        go_wp2_with fail
        obtain ⟨wo, rfl⟩ : ∃ wo : World, wo = wc := ⟨_, rfl⟩
        go_loopw [7] (fun v wr => ∃ (k : Nat) (es : List Bool) (rows : List (List Int)) (vs : List Value) (vb vc : Value) (rk : Rd), k ≤ s ∧ v = .int .i64 k ∧ wr.heap[w.heap.size + 1]? = some (.cells #[.slice ada 256 cpa, vb, vc] 46 (0, 0)) ∧ wr.ownsRow (w.heap.size + 2) 3 1 (.slice ada 256 cpa) 256 (ns.map iV) ∧ wr.ownsRow (w.heap.size + 2) 42 1 vb k vs ∧ wr.ownsRow (w.heap.size + 2) 4 1 vc k (es.map lV) ∧ Rws wr (w.heap.size + 2) vs rows ∧ RfAt S R wr rk ∧ Kp R w wr ∧ wr.heap[w.heap.size]? = some (.cells #[.slice none 0 0, .slice none 0 0, .slice none 0 0] 46 (0, 0)) ∧ Hid (statesR c s r3 = ((es ++ (statesR c (s - k) rk).1.1, rows ++ (statesR c (s - k) rk).1.2), (statesR c (s - k) rk).2))) (fun v _ => s - (intOf v).toNat)
        case atStart => exact ⟨0, [], [], [], .slice none 0 0, .slice none 0 0, r3, Nat.zero_le _, rfl, HD3.out, HOa.out, World.ownsRow_nil _ _ _ _, World.ownsRow_nil _ _ _ _, Rws.nil _ _, HR4.out, HK4.out, HD2.out, hid (by simp)⟩
        case round =>
          clear HD3 HD2 HOa HR4 HK4
          obtain ⟨k, es, rows, vs, vb, vc, rk, hk, rfl, hd3, ha, hb, hc, hrws, hrd, hkp, hd2, hst⟩ := hrel
          obtain ⟨adb, cpb, rfl⟩ := own_shape hb
          obtain ⟨adc, cpc, rfl⟩ := own_shape hc
          obtain ⟨z2, zf⟩ := hrd.cells
          obtain ⟨q0, q1, q2⟩ := dcells hd3
          have HRr := hid hrd
          have HD3 := hid hd3
          have HD2 := hid hd2
          have HOa := hid ha
          have HOb := hid hb
          have HOc := hid hc
          have HRWS := hid hrws
          have HKPr := hid hkp
          have hszr := hkp.size
          have hl3 := lt_of_heap hd3
          clear hd3 hd2 ha hb hc hrws hkp hrd
          obtain ⟨hlts, hbad⟩ | hstop : (k < s ∧ rk.bad = false) ∨ (k = s ∨ (k : Int) < (s : Int) ∧ rk.bad = true) := by
            rcases Nat.lt_or_ge k s with h | h
            · cases hb : rk.bad
              · exact .inl ⟨h, rfl⟩
              · exact .inr (.inr ⟨Int.ofNat_lt.2 h, rfl⟩)
            · exact .inr (.inl (by omega))
          · have HST : Hid (statesR c s r3 = ((es ++ [(bitR rk).1] ++ (statesR c (s - (k + 1)) (numsR c (bitR rk).2).2).1.1, rows ++ [(numsR c (bitR rk).2).1] ++ (statesR c (s - (k + 1)) (numsR c (bitR rk).2).2).1.2), (statesR c (s - (k + 1)) (numsR c (bitR rk).2).2).2)) := by
              have h := hst.out
              rw [show s - k = (s - (k + 1)) + 1 by omega, statesR_step _ _ hbad] at h
              exact hid (by rw [h]; simp)
            rw [hbad] at z2
            clear hbad hst zf
            go_upto_region 13 with fail
            have Q := hid (show ∀ W : World, W.heap[w.heap.size + 1]? = wr.heap[w.heap.size + 1]? → W.cell? ⟨w.heap.size + 1, 2, none⟩ = some (.slice adc k cpc) from fun W hW => (cell_heap hW).trans q2)
            have hneR : w.heap.size + 1 ≠ R := by omega
            have hk9 : k + 1 ≤ maxLen := by unfold maxLen; omega
            have hk8 : (k + 1) * 1 ≤ 140737488355328 := by omega
            refine Till.start (S := fun W => W.cell? ⟨w.heap.size + 1, 2, none⟩ = some (.slice adc k cpc)) (n := 7) (by kernel_rfl) ?_
            refine Till.takePure (i := 0) (v := _) rfl (by kernel_rfl) (fun _ _ _ h => h) (Or.inl ⟨by rfl, fun w _ => by rfl⟩) (fun _ => q2) ?_
            try simp only [Act.put, List.setIfInBounds_toArray, List.set_cons_zero, List.set_cons_succ]
            refine Till.take (i := 1) (v := .slice adc k cpc) rfl (by kernel_rfl) (fun _ _ _ h => h) (Or.inl ⟨by rfl, fun w hS => by go_simp⟩) q2 ?_
            try simp only [Act.put, List.setIfInBounds_toArray, List.set_cons_zero, List.set_cons_succ]
            refine Till.takePure (i := 2) (v := _) rfl (by kernel_rfl) (fun _ _ _ h => h) (Or.inl ⟨by rfl, fun w _ => by rfl⟩) (fun _ => q2) ?_
            try simp only [Act.put, List.setIfInBounds_toArray, List.set_cons_zero, List.set_cons_succ]
            refine Till.all (rs := [3]) (by kernel_rfl) (by simp) (Each.cons rfl (fun K hK => ?_) Each.nil)
            go_simp
            go_at_call 54
            refine (rbit_any (HRr.out.drew) HGn.out).mono ?_
            rintro e w5 ⟨rfl, hrd5, hkp5⟩
            have hd5 := hkp5.block _ hl3 hneR
            have hl5 := Nat.lt_of_lt_of_le hl3 hkp5.size
            have HO5 := hid (own_kp (own_drew HOc.out) hkp5 (rtag HRr.out rtag_b))
            have HD5 := hid (hd5.trans HD3.out)
            have q5 := Q.out _ hd5
            refine hK.out _ _ (fun _ => q5) ?_
            clear hK K
            try simp only [Act.put, List.setIfInBounds_toArray, List.set_cons_zero, List.set_cons_succ]
            refine Till.all (rs := [4]) (by kernel_rfl) (by simp) (Each.cons rfl (fun K hK => ?_) Each.nil)
            go_simp
            refine hK.out _ _ (fun _ => (cell_heap (alloc_old hl5)).trans q5) ?_
            clear hK K
            try simp only [Act.put, List.setIfInBounds_toArray, List.set_cons_zero, List.set_cons_succ]
            refine Till.all (rs := [5]) (by kernel_rfl) (by simp) (Each.cons rfl (fun K hK => ?_) Each.nil)
            refine step_append_lies _ (by rfl) _ _ 44 rfl (w.heap.size + 2) 4 j0 (.bool false) 1 1 Try.underlying44 HJ.out HY.out.1 HY.out.2.1 HY.out.2.2 rfl Nat.one_pos (.slice adc k cpc) k (es.map lV) rfl (HO5.out.alloc _) ⟨w5.heap.size, 0, none⟩ 1 1 [.bool (bitR rk).1] rfl rfl (cell_one_new _ _ _) (one_cell_one rfl) Nat.one_pos hk9 hk8 (le_alloc hl5) _ rfl ?_
            intro g6 cap6 w6 hown6 hgrow6 hat6 hlt6
            have hd6 := (far_row HO5.out hgrow6 hl5 (Nat.lt_succ_self _)).trans hd5
            have HD6 := hid (hd6.trans HD3.out)
            have f6 := free_box (i := 2) HD6.out
            have q6 := Q.out _ hd6
            refine hK.out _ _ (fun _ => q6) ?_
            clear hK K
            try simp only [Act.put, List.setIfInBounds_toArray, List.set_cons_zero, List.set_cons_succ]
            refine Till.takePure (i := 6) (v := _) rfl (by kernel_rfl) (fun _ _ _ h => h) (Or.inl ⟨by rfl, fun w _ => by rfl⟩) (fun _ => q6) ?_
            try simp only [Act.put, List.setIfInBounds_toArray, List.set_cons_zero, List.set_cons_succ]
            refine Till.all (rs := [7]) (by kernel_rfl) (by simp) (Each.cons rfl (fun K hK => ?_) Each.nil)
            go_simp
            refine hK.out _ _ (fun h => absurd h (by decide)) ?_
            clear hK K
            try simp only [Act.put, List.setIfInBounds_toArray, List.set_cons_zero, List.set_cons_succ]
            refine Till.done (by kernel_rfl) ?_ _
            have hs5 : wr.heap.size ≤ w5.heap.size := hkp5.size
            have HOc6 := hid (own_set (i := 2) (u := .slice (some ⟨g6, 0, none⟩) (k + 1) cap6) hown6 HD6.out (by decide))
            have hb6 : Below w.heap.size w5 w6 := ((Below.refl _ w5).alloc (by omega) _).grown hgrow6 (by simp; omega) (fun q hq => by have := (HO5.out.lt q hq).1; omega)
            have hb6' := hid (hb6.setCell (p := ⟨w.heap.size + 1, 2, none⟩) (by simp) (.slice (some ⟨g6, 0, none⟩) (k + 1) cap6))
            have hno6 : ∀ {e n : Nat} {v : Value} {xs : List Value}, w5.ownsRow (w.heap.size + 2) e 1 v n xs → e ≠ 4 → e ≠ 46 → (w6.setCell ⟨w.heap.size + 1, 2, none⟩ (.slice (some ⟨g6, 0, none⟩) (k + 1) cap6)).ownsRow (w.heap.size + 2) e 1 v n xs := fun h he1 he2 =>
              own_set (own_grown (h.alloc _) hgrow6 (fun g cur hg hh => by
                obtain ⟨cur', h'⟩ := own_tag HO5.out hg
                have := (alloc_old (o := .cells #[.bool (bitR rk).1] 4) (lt_of_heap h')).trans h'
                rw [hh] at this
                cases this
                exact he1 rfl)) HD6.out (fun e => he2 e.symm)
            have hOa6 := hid (hno6 (own_kp (own_drew HOa.out) hkp5 (rtag HRr.out rtag_i)) (by decide) (by decide))
            have hOb6 := hid (hno6 (own_kp (own_drew HOb.out) hkp5 (rtag HRr.out rtag_r)) (by decide) (by decide))
            have hRw6 := hid (show Rws (w6.setCell ⟨w.heap.size + 1, 2, none⟩ (.slice (some ⟨g6, 0, none⟩) (k + 1) cap6)) (w.heap.size + 2) vs rows from ⟨HRWS.out.1, fun i v l h1 h2 => hno6 (own_kp (own_drew (HRWS.out.2 i v l h1 h2)) hkp5 (rtag HRr.out rtag_i)) (by decide) (by decide)⟩)
            have hRd6 := hid (hrd5.below hb6'.out (by omega) hgb)
            have hKp6 := hid ((HKPr.out.drew.trans hkp5).below hb6'.out)
            have hD6 := hid (three_set2 (.slice (some ⟨g6, 0, none⟩) (k + 1) cap6) HD6.out)
            have hD26 := hid (((heap_setCell_other w6 ⟨w.heap.size + 1, 2, none⟩ w.heap.size (.slice (some ⟨g6, 0, none⟩) (k + 1) cap6) (by simp)).trans ((hgrow6.block w.heap.size (by simp; omega) (fun e => by have := (HO5.out.lt _ e.symm).1; omega)).trans (alloc_old (by omega)))).trans ((hkp5.block w.heap.size (by show _ < wr.heap.size; omega) (by omega)).trans HD2.out))
            generalize hwm : w6.setCell ⟨w.heap.size + 1, 2, none⟩ (.slice (some ⟨g6, 0, none⟩) (k + 1) cap6) = wm at *
            have hszm := hKp6.out.size
            have hlm := lt_of_heap hD6.out
            clear hwm hb6' hb6 hno6 hgrow6 hown6 hat6 hlt6 hd6 HD6 f6 q6 Q q5 hd5 hrd5 hkp5 HD5 HO5 HOa HOb HOc HRWS HD3 HD2 HRr HKPr hk9 hk8 hl3 hl5 hs5 z2 q0 q1 q2 hszr
            go_wp2_with fail
            go_loopw [8, 9] (fun u v wr => ∃ (j : Nat) (ms : List Int) (rn : Rd), j ≤ c ∧ v = .int .i64 j ∧ wr.ownsRow wm.heap.size 3 1 u j (ms.map iV) ∧ RfAt S R wr rn ∧ Kp R wm wr ∧ Hid (numsR c (bitR rk).2 = (ms ++ (numsR (c - j) rn).1, (numsR (c - j) rn).2))) (fun _ v _ => c - (intOf v).toNat)
            case atStart => exact ⟨0, [], _, Nat.zero_le _, rfl, World.ownsRow_nil _ _ _ _, hRd6.out, Kp.refl R wm, hid (by simp)⟩
            case round =>
              obtain ⟨j, ms, rn, hj, rfl, hoj, hrdj, hkpj, hnj⟩ := hrel
              obtain ⟨adj, cpj, rfl⟩ := own_shape hoj
              obtain ⟨z2, zf⟩ := hrdj.cells
              have hszj := hkpj.size
              have HOJ := hid hoj
              have HKJ := hid hkpj
              have HRJ := hid hrdj
              obtain ⟨⟨hjc, hbad⟩, HN⟩ | ⟨hstop, HNJ⟩ : ((j < c ∧ rn.bad = false) ∧ Hid (numsR c (bitR rk).2 = (ms ++ [((numR rn).1 : Int)] ++ (numsR (c - (j + 1)) (numR rn).2).1, (numsR (c - (j + 1)) (numR rn).2).2))) ∨ ((j = c ∨ (j : Int) < (c : Int) ∧ rn.bad = true) ∧ Hid (numsR c (bitR rk).2 = (ms, rn))) := by
                have h := hnj.out
                rcases Nat.lt_or_ge j c with hlt | hge
                · cases hb : rn.bad
                  · refine .inl ⟨⟨hlt, rfl⟩, hid ?_⟩
                    rw [show c - j = (c - (j + 1)) + 1 by omega, numsR_step _ hb] at h
                    rw [h]; simp
                  · refine .inr ⟨.inr ⟨Int.ofNat_lt.2 hlt, rfl⟩, hid ?_⟩
                    rw [numsR_bad _ hb] at h
                    rw [h]; simp
                · refine .inr ⟨.inl (by omega), hid ?_⟩
                  rw [show c - j = 0 by omega] at h
                  rw [h]; simp [numsR]
              · rw [hbad] at z2
                clear hbad hnj hoj hrdj hkpj zf
                have hnl := numR_lt rn
                have hjc1 : (0 : Int) ≤ (j : Int) := Int.natCast_nonneg j
                have hjc2 : (j : Int) < (c : Int) := Int.ofNat_lt.2 hjc
                go_wp2_with (first | (go_at_call 53; refine (rnum_any HRJ.out HGn.out).mono ?_; rintro e w8 ⟨rfl, hrd8, hkp8⟩; have HO8 := hid (own_kp HOJ.out hkp8 (rtag HRJ.out rtag_i)); have HR8 := hid hrd8; have HK8 := hid (HKJ.out.trans hkp8); have hs8 := HK8.out.size; clear hrd8 hkp8) | (at_builtin; refine wpList_append_own _ rfl _ _ 42 rfl wm.heap.size 3 i0 (.int .i64 0) 1 8 Try.underlying42 HI.out HZ.out.1 HZ.out.2.1 HZ.out.2.2 rfl (by decide) _ _ _ rfl (HO8.out.alloc _) ⟨w8.heap.size, 0, none⟩ 1 1 [.int .i64 ((numR rn).1 : Int)] rfl rfl ?c1 ?c2 ?c3 ?c4 ?c5 ?_))
                case c1 => exact cell_one_new _ _ _
                case c2 => intro u hu; simp at hu; subst hu; rfl
                case c3 => unfold maxLen; omega
                case c4 => omega
                case c5 => simp; omega
                intro v9 w9 hown9 hgrow9 _
                have hB9 : Below wm.heap.size w8 w9 := ((Below.refl _ w8).alloc (by omega) _).grown hgrow9 (by simp; omega) (fun q hq => (HO8.out.lt q hq).1)
                have HO9 := hid hown9
                have HK9 := hid (HK8.out.below hB9)
                have HR9 := hid (HR8.out.below hB9 (by omega) (by omega))
                clear hown9 hgrow9 hB9
                go_wp2
                go_roundw
                case rel =>
                  refine ⟨j + 1, ms ++ [((numR rn).1 : Int)], (numR rn).2, by omega, by go_num, ?_, HR9.out, HK9.out, HN⟩
                  rw [List.map_append]; exact HO9.out
                case measure => simp [intOf]; omega
              · have hml : ms.length = j := by have h := hoj.1; simpa using h
                clear hnj hoj hrdj hkpj zf
                have HDm := hid ((HKJ.out.block (w.heap.size + 1) hlm (by omega)).trans hD6.out)
                have HDj := hid ((HKJ.out.block w.heap.size (by omega) (by omega)).trans hD26.out)
                have HOaj := hid (own_kp hOa6.out HKJ.out (rtag hRd6.out rtag_i))
                have HObj := hid (own_kp hOb6.out HKJ.out (rtag hRd6.out rtag_r))
                have HOcj := hid (own_kp HOc6.out HKJ.out (rtag hRd6.out rtag_b))
                have HRwj := hid (show Rws wr (w.heap.size + 2) vs rows from ⟨hRw6.out.1, fun i v l h1 h2 => own_kp (hRw6.out.2 i v l h1 h2) HKJ.out (rtag hRd6.out rtag_i)⟩)
                have HKpj := hid (hKp6.out.trans HKJ.out)
                have HOn := hid (own_mono HOJ.out (show w.heap.size + 2 ≤ wm.heap.size by omega))
                clear HKJ HOJ hD6 hD26 hOa6 hOb6 HOc6 hRw6 hKp6 hRd6
                have f9 := free_box (i := 1) HDm.out
                obtain ⟨s0, s1, s2⟩ := dcells HDm.out
                rcases hstop with rfl | ⟨hjc, hbad⟩
                all_goals try rw [hbad] at z2
                all_goals try clear hbad
                all_goals
                  go_wp2_with (at_builtin; refine wpList_append_own _ rfl _ _ 43 rfl (w.heap.size + 2) 42 m0 (.slice none 0 0) 1 24 Try.underlying43 HM.out HMZ.out.1 HMZ.out.2.1 HMZ.out.2.2 rfl (by decide) _ _ _ rfl (HObj.out.alloc _) ⟨wr.heap.size, 0, none⟩ 1 1 [.slice adj j cpj] rfl rfl ?c1 ?c2 ?c3 ?c4 ?c5 ?_)
                  case c1 => exact cell_one_new _ _ _
                  case c2 => intro u hu; simp at hu; subst hu; rfl
                  case c3 => unfold maxLen; omega
                  case c4 => omega
                  case c5 => simp; omega
                  intro v10 w10 hown10 hgrow10 _
                  obtain ⟨ad10, cp10, rfl⟩ := own_shape hown10
                  have HD10 := hid ((far_row HObj.out hgrow10 (by omega) (Nat.lt_succ_self _)).trans HDm.out)
                  have f10 := free_box (i := 1) HD10.out
                  obtain ⟨y0, y1, y2⟩ := dcells HD10.out
                  have HOW10 := hid hown10
                  have HG10 := hid hgrow10
                  clear hown10 hgrow10
                  go_wp2
                  refine And.intro ?_ ?_
                  · repeat apply Exists.intro
                    refine And.intro ?_ rfl
                    have hb10 : Below w.heap.size wr (w10.setCell ⟨w.heap.size + 1, 1, none⟩ (.slice ad10 (k + 1) cp10)) := (((Below.refl _ wr).alloc (by omega) _).grown HG10.out (by simp; omega) (fun q hq => by have := (HObj.out.lt q hq).1; omega)).setCell (by simp) _
                    have hno10 : ∀ {e n : Nat} {v : Value} {xs : List Value}, wr.ownsRow (w.heap.size + 2) e 1 v n xs → e ≠ 42 → e ≠ 46 → (w10.setCell ⟨w.heap.size + 1, 1, none⟩ (.slice ad10 (k + 1) cp10)).ownsRow (w.heap.size + 2) e 1 v n xs := fun h he1 he2 =>
                      own_set (own_grown (h.alloc _) HG10.out (fun g cur hg hh => by
                        obtain ⟨cur', h'⟩ := own_tag HObj.out hg
                        have := (alloc_old (o := .cells #[.slice adj j cpj] 42) (lt_of_heap h')).trans h'
                        rw [hh] at this
                        cases this
                        exact he1 rfl)) HD10.out (fun e => he2 e.symm)
                    refine ⟨k + 1, es ++ [(bitR rk).1], rows ++ [ms], vs ++ [.slice adj j cpj], _, _, rn, by omega, by go_num, three_set1 _ HD10.out, hno10 HOaj.out (by decide) (by decide), own_set HOW10.out HD10.out (by decide), ?_, ?_, HRJ.out.below hb10 hlt hgb, HKpj.out.below hb10, (heap_setCell_other _ _ _ _ (by simp)).trans ((far_row HObj.out HG10.out (by omega) (by omega)).trans HDj.out), hid (by have h := HST.out; rw [HNJ.out] at h; exact h)⟩
                    · rw [List.map_append]; exact hno10 HOcj.out (by decide) (by decide)
                    · exact Rws.snoc (v := .slice adj j cpj) ⟨HRwj.out.1, fun i v l h1 h2 => hno10 (HRwj.out.2 i v l h1 h2) (by decide) (by decide)⟩ (by rw [hml]; exact hno10 HOn.out (by decide) (by decide))
                  · simp [intOf]; omega
          · have HFIN := hid (show statesR c s r3 = ((es, rows), rk) by
              have h := hst.out
              rcases hstop with rfl | ⟨_, hbad⟩
              · rw [Nat.sub_self] at h; rw [h]; simp [statesR]
              · rw [statesR_bad _ _ hbad] at h; rw [h]; simp)
            have hvl : vs.length = k := by have := HOb.out.1; omega
            have hdfa : DfaIn (fun g => w.heap.size + 2 ≤ g) wr (.slice ada 256 cpa) (.slice adb k cpb) (.slice adc k cpc) ⟨ns, rows, es⟩ := ⟨own_row' HOa.out (fun _ _ => rfl), Rws.rows HRWS.out (by rw [hvl]; exact HOb.out), own_row' HOc.out (fun _ _ => rfl)⟩
            have HDF := hid hdfa.lt
            clear hst hdfa
            have HA4 := hid (show autoR r = (⟨ns, rows, es⟩, ⟨rk.b, rk.bad || !dfaOk ⟨ns, rows, es⟩⟩) by rw [HA3.out, HFIN.out]; rfl)
            have HA5 := hid (show ∀ ok, dfaOk ⟨ns, rows, es⟩ = ok → RfAt S R wr rk → ∀ w9, Below wr.heap.size wr w9 → RfAt S R (if ok then w9 else w9.setCell ⟨R, 2, none⟩ (.bool true)) (autoR r).2 ∧ Kp R wr (if ok then w9 else w9.setCell ⟨R, 2, none⟩ (.bool true)) from fun ok hok hr w9 hb => by
              have hs := hszr
              have h9 := hr.below hb hr.lt (by omega)
              have hk9 := (Kp.refl R wr).below hb
              rw [HA4.out, hok]
              cases ok
              · exact ⟨by simpa using h9.setBad HGn.out, hk9.set 2 _⟩
              · exact ⟨by simpa using h9, hk9⟩)
            have HA6 := hid (show (autoR r).1 = ⟨ns, rows, es⟩ by rw [HA4.out])
            clear HA3 HA4 HFIN
            rcases hstop with rfl | ⟨hlts, hbad⟩
            all_goals try rw [hbad] at z2
            all_goals try clear hbad
            all_goals
              go_upto_if 79 with (go_at_call 61; refine (rightR_any HDF.out (fun g hg => hg.2)).mono ?_; rintro e w9 ⟨rfl, hb9⟩; have HB9 := hid hb9; clear hb9)
              go_cut [] (fun wx => RfAt S R wx (autoR r).2 ∧ Kp R wr wx)
              case first =>
                obtain ⟨k2, kf⟩ := (HRr.out.below HB9.out HRr.out.lt (by omega)).cells
                cases hok : dfaOk ⟨ns, rows, es⟩
                · have h := HA5.out _ hok HRr.out w9 HB9.out
                  have HH := hid h
                  clear h
                  go_wp2
                  go_meet
                  exact HH.out
                · have h := HA5.out _ hok HRr.out w9 HB9.out
                  have HH := hid h
                  clear h
                  go_wp2
                  go_meet
                  exact HH.out
              case rest =>
                obtain ⟨hr9, hk9⟩ := hcut
                have HR9 := hid hr9
                have HK9 := hid (HKPr.out.trans hk9)
                have HOa9 := hid (own_kp HOa.out hk9 (rtag HRr.out rtag_i))
                have HOb9 := hid (own_kp HOb.out hk9 (rtag HRr.out rtag_r))
                have HOc9 := hid (own_kp HOc.out hk9 (rtag HRr.out rtag_b))
                have HRw9 := hid (show Rws wc (w.heap.size + 2) vs rows from ⟨HRWS.out.1, fun i v l h1 h2 => own_kp (HRWS.out.2 i v l h1 h2) hk9 (rtag HRr.out rtag_i)⟩)
                have HDz := hid ((hk9.block (w.heap.size + 1) hl3 (by omega)).trans HD3.out)
                have HD2z := hid ((hk9.block w.heap.size (by omega) (by omega)).trans HD2.out)
                clear hr9 hk9
                obtain ⟨y0, y1, y2⟩ := dcells HDz.out
                obtain ⟨e0, e1, e2⟩ := dcells HD2z.out
                have f0 := free_box (i := 0) HD2z.out
                have f1 := free_box (i := 1) HD2z.out
                have f2 := free_box (i := 2) HD2z.out
                go_wp2_with fail
                refine bodyPost_ret (results_cell_row (ty := 46) rfl _ _ w.heap.size 46 _ (0, 0) _ rfl (three_set2 _ (three_set1 _ (three_set0 _ HD2z.out))) Try.underlying46 rfl (by kernel_rfl)) rfl ?_
                exact ⟨_, _, _, rfl, by rw [HA6.out]; exact dfa_end HOa9.out HOb9.out HOc9.out HRw9.out, HR9.out.below below_end hlt hgb, HK9.out.below below_end⟩
end Go.Proofs.Ytdokeelodcckoaa.Im
