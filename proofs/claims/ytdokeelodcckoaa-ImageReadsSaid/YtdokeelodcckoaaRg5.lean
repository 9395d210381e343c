/-
  The references' classes and images: whittleref26.Right, whittleref27.Right, Check, Sum.
-/
import Derived.Test.YtdokeelodcckoaaRg4
import Derived.Test.YtdokeelodcckoaaRg2
import Derived.Test.YtdokeelodcckoaaImgJ
namespace Go.Proofs.Ytdokeelodcckoaa.Im
open Go.RowKit Go.Lib

theorem contains_step (l : List (List B)) (x : List B) (j : Nat) (h : j < l.length) : (l.take (j + 1)).contains x = ((l.take j).contains x || decide (x = l[j])) := by
  rw [take_succ' _ _ h]
  exact contains_snoc _ _ _

set_option maxRecDepth 100000 in
set_option maxHeartbeats 4000000 in
theorem classRight_any {F : Nat → Prop} {w : World} {v : Value} {l : List Cls} (hl : ClsIn F w v l) (hF : ∀ g, F g → g < w.heap.size) (hnm : ∀ c ∈ l, c.name.length ≤ 140737488351232) :
    Calls Try.prog 41 #[v] w fun e w' => e = .returned (.bool (decide (l.length ≤ 64) && classesOk nameOk [] l)) ∧ Below w.heap.size w w' := by
  obtain ⟨ad, cp, rfl, hm, hr⟩ := hl
  unfold maxLen at hm
  have HR := hid hr
  have HNM := hid hnm
  have HFF := hid hF
  clear hr hnm hF
  by_cases h64 : 64 < l.length
  · have hno := hid (show (decide (l.length ≤ 64) && classesOk nameOk [] l) = false by simp; omega)
    have h64' : ¬ (l.length : Int) ≤ 64 := by omega
    have h0' : (0 : Int) < l.length := by omega
    clear h64
    go_enter Try.func41, Try.ntmps41
    go_wp2
    refine wp_loop_rounds 1 ?_
    rw [rounds_succ]
    go_wp2
    go_ret
    exact ⟨bool_eq (by rw [hno.out]; simp <;> omega), Below.refl _ _⟩
  · have hok := hid (show (decide (l.length ≤ 64) && classesOk nameOk [] l) = classesOk nameOk [] l by simp; omega)
    have h64' : (l.length : Int) ≤ 64 := by omega
    clear h64
    go_enter Try.func41, Try.ntmps41
    go_wp2
    go_loopw [3] (fun v wr => ∃ k : Nat, k ≤ l.length ∧ v = .int .i64 k ∧ Below w.heap.size w wr ∧ Hid (classesOk nameOk ((l.take k).map (·.name)) (l.drop k) = classesOk nameOk [] l)) (fun v _ => l.length - (intOf v).toNat)
    case atStart => exact ⟨0, Nat.zero_le _, rfl, Below.refl _ _, hid (by simp)⟩
    case round =>
      obtain ⟨k, hk, rfl, hbr, HCL⟩ := hrel
      by_cases hlt : k < l.length
      · obtain ⟨g, off, rfl, hFg, hcells⟩ := HR.out (by intro e; subst e; simp at hlt)
        obtain ⟨cs, hcs, hc, x, p, y, q, z, s, rfl, hd⟩ := hcells k hlt
        have hgl := HFF.out g hFg
        have CC := hid (show ∀ W : World, Below w.heap.size w W → W.cell? ⟨g, off + k * 4, none⟩ = some (.string ⟨l[k].name.toArray⟩) ∧ W.cell? ⟨g, off + k * 4 + 1, none⟩ = some (.slice x l[k].of.cls.length p) ∧ W.cell? ⟨g, off + k * 4 + 2, none⟩ = some (.slice y l[k].of.next.length q) ∧ W.cell? ⟨g, off + k * 4 + 3, none⟩ = some (.slice z l[k].of.fin.length s) from fun W hW =>
          ⟨(cell_heap (hW.block g hgl)).trans (hc 0 _ rfl), (cell_heap (hW.block g hgl)).trans (hc 1 _ rfl), (cell_heap (hW.block g hgl)).trans (hc 2 _ rfl), (cell_heap (hW.block g hgl)).trans (hc 3 _ rfl)⟩)
        have HD := hid hd
        have NAMES := hid (show ∀ j (hj : j < l.length) (W : World), Below w.heap.size w W → W.cell? ⟨g, off + j * 4, none⟩ = some (.string ⟨l[j].name.toArray⟩) from fun j hj W hW => by
          obtain ⟨cs, _, hc, x, p, y, q, z, s, rfl, _⟩ := hcells j hj
          exact (cell_heap (hW.block g hgl)).trans (hc 0 _ rfl))
        have hnl := HNM.out _ (List.getElem_mem hlt)
        have hcl1 := HCL.out
        rw [drop_cons' l k hlt] at hcl1
        have NO := hid (show (nameOk l[k].name && !(((l.take k).map (·.name)).contains l[k].name) && dfaOk l[k].of) = false → Hid ((decide (l.length ≤ 64) && classesOk nameOk [] l) = false) from fun h => hid (hok.out.trans (hcl1.symm.trans (classesOk_not _ h))))
        have HCL1 := hid hcl1
        have hkl : (k : Int) < (l.length : Int) := by omega
        clear hcells hc hd hcl1 HCL
        obtain ⟨c0, c1, c2, c3⟩ := CC.out wr hbr
        go_wp2_with fail
        refine (nameR_any l[k].name _ hnl).mono ?_
        rintro e w1 ⟨rfl, hb1⟩
        have hbr1 := hbr.trans (hb1.mono hbr.size)
        clear c0 c1 c2 c3
        cases hx : nameOk l[k].name
        · have hno := NO.out (by rw [hx]; rfl)
          clear hx
          go_wp2
          go_ret
          exact ⟨bool_eq hno.out.symm, hbr1⟩
        have HX := hid hx
        clear hx
        obtain ⟨c0, c1, c2, c3⟩ := CC.out w1 hbr1
        go_wp2_with fail
        refine (rightR_any (HD.out.frame (F' := F) (fun _ h => h) (fun g _ hl => hbr1.block g hl)) (fun g hg => Nat.lt_of_lt_of_le (HFF.out g hg) hbr1.size)).mono ?_
        rintro e w2 ⟨rfl, hb2⟩
        have hbr2 := hbr1.trans (hb2.mono hbr1.size)
        clear c0 c1 c2 c3
        cases hz : dfaOk l[k].of
        · have hno := NO.out (by rw [hz]; simp)
          clear hz
          go_wp2
          go_ret
          exact ⟨bool_eq hno.out.symm, hbr2⟩
        have HZ := hid hz
        clear hz
        obtain ⟨wo, rfl⟩ : ∃ wo : World, wo = wr := ⟨_, rfl⟩
        go_wp2
        go_loopw [4] (fun v wx => ∃ j : Nat, j ≤ k ∧ v = .int .i64 j ∧ Below w.heap.size w wx ∧ Hid (((l.map (·.name)).take j).contains l[k].name = false)) (fun v _ => k - (intOf v).toNat)
        case atStart => exact ⟨0, Nat.zero_le _, rfl, hbr2, hid (by simp)⟩
        case round =>
          obtain ⟨j, hj, rfl, hbx, HJ⟩ := hrel
          by_cases hjk : j < k
          · have hjl : j < l.length := by omega
            have hjl' : (j : Int) < (l.length : Int) := by omega
            have c0 := NAMES.out k hlt wr hbx
            have d0 := NAMES.out j hjl wr hbx
            by_cases he : l[j].name = l[k].name
            · have HE := hid he
              have hno := NO.out (by
                have : ((l.take k).map (·.name)).contains l[k].name = true := by
                  rw [List.contains_iff_mem, ← he]
                  exact List.mem_map.2 ⟨l[j], by rw [List.mem_take_iff_getElem]; exact ⟨j, by omega, rfl⟩, rfl⟩
                rw [this]; simp)
              clear he
              go_upto_region 9 with fail
              go_quiet (fail)
              rw [beq_iff_eq.2 HE.out]
              go_wp2
              go_ret
              exact ⟨bool_eq hno.out.symm, below_drewN hbx _⟩
            · have HE := hid he
              have HN := hid (show ((l.map (·.name)).take (j + 1)).contains l[k].name = false by
                rw [contains_step _ _ _ (by simpa using hjl), HJ.out]
                simp
                exact fun e => he e.symm)
              clear he
              go_upto_region 9 with fail
              go_quiet (fail)
              rw [beq_eq_false_iff_ne.2 HE.out]
              go_wp2
              go_roundw
              case rel => exact ⟨j + 1, by omega, by go_num, below_drewN hbx _, HN⟩
              case measure => simp [intOf]; omega
          · obtain rfl : j = k := by omega
            have hnext := hid (HCL1.out.symm.trans (show classesOk nameOk ((l.take j).map (·.name)) (l[j] :: l.drop (j + 1)) = classesOk nameOk ((l.take (j + 1)).map (·.name)) (l.drop (j + 1)) by
              have hy := HJ.out
              rw [← List.map_take] at hy
              rw [take_succ' _ _ hlt]
              simp only [classesOk, HX.out, hy, HZ.out, List.map_append, List.map_cons, List.map_nil]
              rfl))
            go_wp2
            go_roundw
            case rel => exact ⟨j + 1, by omega, by go_num, hbx, hid hnext.out.symm⟩
            case measure => simp [intOf]; omega
      · obtain rfl : k = l.length := by omega
        have hyes := hid (hok.out.trans (HCL.out.symm.trans (show _ = true by rw [List.drop_length]; rfl)))
        clear HCL
        go_wp2
        go_ret
        exact ⟨bool_eq hyes.out.symm, hbr⟩
end Go.Proofs.Ytdokeelodcckoaa.Im

namespace Go.Proofs.Ytdokeelodcckoaa.Im
open Go.RowKit Go.Lib

/-- what the reference asks besides -/
def ImgSum (x : Img) : Prop := ∀ r ∈ x.rules, SqSum r.by_

set_option maxRecDepth 100000 in
set_option maxHeartbeats 4000000 in
theorem imgRight_any {F : Nat → Prop} {w : World} {a b : Value} {x : Img} (hx : ImgIn F w a b x) (hF : ∀ g, F g → g < w.heap.size) (hlens : ImgLens x) (hsum : ImgSum x) :
    Calls Try.prog 25 #[.agg #[a, b]] w fun e w' => e = .returned (.bool (imgOk nameOk x)) ∧ Below w.heap.size w w' := by
  obtain ⟨h1, h2⟩ := hx
  have H2 := hid h2
  obtain ⟨ad1, cp1, rfl, hm1, hr1⟩ := h1
  obtain ⟨ad2, cp2, rfl, hm2, hr2⟩ := h2
  unfold maxLen at hm1 hm2
  have HR1 := hid hr1
  have HFF := hid hF
  have HL := hid hlens
  have HS := hid hsum
  clear hr1 hr2 hF hlens hsum
  by_cases h64 : 64 < x.rules.length
  · have hno := hid (show imgOk nameOk x = false by simp [imgOk]; omega)
    have h64' : ¬ (x.rules.length : Int) ≤ 64 := by omega
    have h0' : (0 : Int) < x.rules.length := by omega
    clear h64
    go_enter Try.func25, Try.ntmps25
    go_wp2
    refine wp_loop_rounds 1 ?_
    rw [rounds_succ]
    go_wp2
    go_ret
    exact ⟨bool_eq (by rw [hno.out] <;> simp <;> omega), (Below.refl _ w).alloc (Nat.le_refl _) _⟩
  · have hok := hid (show imgOk nameOk x = (x.rules.all ruleOk && (decide (x.classes.length ≤ 64) && classesOk nameOk [] x.classes)) by unfold imgOk; rw [show decide (x.rules.length ≤ 64) = true by simp; omega]; simp [Bool.and_assoc])
    have h64' : (x.rules.length : Int) ≤ 64 := by omega
    clear h64
    go_enter Try.func25, Try.ntmps25
    go_wp2
    generalize hW0 : w.alloc (.cells #[.slice ad1 x.rules.length cp1, .slice ad2 x.classes.length cp2] 25) = W0
    have HDB : Hid (W0.heap[w.heap.size]? = some (.cells #[.slice ad1 x.rules.length cp1, .slice ad2 x.classes.length cp2] 25 (0, 0))) := by rw [← hW0]; exact hid (heap_alloc_new _ _)
    have hz0 : W0.heap.size = w.heap.size + 1 := by rw [← hW0]; simp
    have hB0 : Below w.heap.size w W0 := by rw [← hW0]; exact (Below.refl _ _).alloc (Nat.le_refl _) _
    clear hW0
    go_loopw [3] (fun v wr => ∃ k : Nat, k ≤ x.rules.length ∧ v = .int .i64 k ∧ Below W0.heap.size W0 wr ∧ Hid ((x.rules.take k).all ruleOk = true)) (fun v _ => x.rules.length - (intOf v).toNat)
    case atStart => exact ⟨0, Nat.zero_le _, rfl, Below.refl _ _, hid (by simp)⟩
    case round =>
      obtain ⟨k, hk, rfl, hbr, hall⟩ := hrel
      have hBr : Below w.heap.size w wr := hB0.trans (hbr.mono (by omega))
      have hsz := hbr.size
      obtain ⟨r0, r1⟩ := twocells ((hbr.block w.heap.size (by omega)).trans HDB.out)
      by_cases hlt : k < x.rules.length
      · obtain ⟨g, off, rfl, hFg, hcells⟩ := HR1.out (by intro e; rw [e] at hlt; simp at hlt)
        obtain ⟨cs, hcs, hc, hrule⟩ := hcells k hlt
        have low : ∀ g, F g → g < w.heap.size → wr.heap[g]? = w.heap[g]? := fun g hg hl => hBr.block g hl
        have hc' : ∀ j c, cs[j]? = some c → wr.cell? ⟨g, off + k * 16 + j, none⟩ = some c := fun j c h => (cell_heap (low g hFg (HFF.out g hFg))).trans (hc j c h)
        obtain ⟨x1, p1, y1, q1, z1, s1, x2, p2, y2, q2, z2, s2, x3, p3, y3, q3, z3, s3, x4, p4, y4, q4, z4, s4, v4, t4, hcs2⟩ := hrule.shape
        rw [hcs2] at hc' hrule
        unfold ruleC at hc' hrule
        have k0 := hc' 0 _ rfl
        rw [Nat.add_zero] at k0
        have k1 := hc' 1 _ rfl
        have k2 := hc' 2 _ rfl
        have k3 := hc' 3 _ rfl
        have k4 := hc' 4 _ rfl
        have k5 := hc' 5 _ rfl
        have k6 := hc' 6 _ rfl
        have k7 := hc' 7 _ rfl
        have k8 := hc' 8 _ rfl
        have k9 := hc' 9 _ rfl
        have k10 := hc' 10 _ rfl
        have k11 := hc' 11 _ rfl
        have k12 := hc' 12 _ rfl
        have k13 := hc' 13 _ rfl
        have k14 := hc' 14 _ rfl
        have k15 := hc' 15 _ rfl
        have hkl : (k : Int) < (x.rules.length : Int) := by omega
        have HRU := hid (hrule.frame (F' := F) (fun _ h => h) (fun g _ hl => hBr.block g hl))
        have HLR := hid (HL.out.rules _ (List.getElem_mem hlt))
        have HSR := hid (HS.out _ (List.getElem_mem hlt))
        clear hcs2 hc' hrule hcells hc hcs low
        go_wp2_with fail
        refine (ruleRight_any HRU.out (fun g hg => by have := HFF.out g hg; omega) HLR.out HSR.out).mono ?_
        rintro e w1 ⟨rfl, hb1⟩
        have hbr1 := hbr.trans (hb1.mono hsz)
        have hBr1 := hB0.trans (hbr1.mono (by omega))
        clear k0 k1 k2 k3 k4 k5 k6 k7 k8 k9 k10 k11 k12 k13 k14 k15 r0 r1
        cases hz : ruleOk x.rules[k]
        · have hno := hid (hok.out.trans (show _ = false by rw [all_not (List.getElem_mem hlt) hz]; rfl))
          clear hz
          go_wp2
          go_ret
          exact ⟨bool_eq hno.out.symm, hBr1⟩
        · have hsn := hid (all_snoc hlt hall.out hz)
          clear hz
          go_wp2
          go_roundw
          case rel => exact ⟨k + 1, by omega, by go_num, hbr1, hsn⟩
          case measure => simp [intOf]; omega
      · obtain rfl : k = x.rules.length := by omega
        have hfin := hid (show imgOk nameOk x = (decide (x.classes.length ≤ 64) && classesOk nameOk [] x.classes) by have h := hall.out; rw [List.take_length] at h; rw [hok.out, h]; rfl)
        have HCL := hid (H2.out.frame (F' := F) (fun _ h => h) (fun g _ hl => hBr.block g hl))
        clear hall
        go_wp2_with fail
        refine (classRight_any HCL.out (fun g hg => by have := HFF.out g hg; omega) HL.out.names).mono ?_
        rintro e w1 ⟨rfl, hb1⟩
        go_wp2
        go_ret
        exact ⟨bool_eq (by rw [hfin.out]), hBr.trans (hb1.mono (by omega))⟩

set_option maxRecDepth 100000 in
set_option maxHeartbeats 1000000 in
theorem refCheck_any {F : Nat → Prop} {w : World} {a b : Value} {x : Img} (hx : ImgIn F w a b x) (hF : ∀ g, F g → g < w.heap.size) (hlens : ImgLens x) (hsum : ImgSum x) :
    Calls Try.prog 13 #[.agg #[a, b]] w fun e w' => e = .returned (.int .i64 (errOf (imgOk nameOk x))) ∧ Below w.heap.size w w' := by
  have HX := hid hx
  obtain ⟨h1, h2⟩ := hx
  obtain ⟨ad1, cp1, rfl, hm1, hr1⟩ := h1
  obtain ⟨ad2, cp2, rfl, hm2, hr2⟩ := h2
  clear hr1 hr2
  generalize hW0 : w.alloc (.cells #[.slice ad1 x.rules.length cp1, .slice ad2 x.classes.length cp2] 25) = W0
  have hDB : W0.heap[w.heap.size]? = some (.cells #[.slice ad1 x.rules.length cp1, .slice ad2 x.classes.length cp2] 25 (0, 0)) := by rw [← hW0]; exact heap_alloc_new _ _
  have hz0 : W0.heap.size = w.heap.size + 1 := by rw [← hW0]; simp
  have hB0 : Below w.heap.size w W0 := by rw [← hW0]; exact (Below.refl _ _).alloc (Nat.le_refl _) _
  obtain ⟨r0, r1⟩ := twocells hDB
  have HW0 := hid hW0
  have HFF := hid hF
  clear hW0 hDB hF
  go_enter Try.func13, Try.ntmps13
  go_wp2_with fail
  rw [HW0.out]
  refine (imgRight_any (HX.out.frame (F' := F) (fun _ h => h) (fun g _ hl => hB0.block g hl)) (fun g hg => by have := HFF.out g hg; omega) hlens hsum).mono ?_
  rintro e w1 ⟨rfl, hb1⟩
  cases hz : imgOk nameOk x
  all_goals
    go_wp2
    go_ret
    exact ⟨err_eq (by rw [hz]; rfl), hB0.trans (hb1.mono (by omega))⟩

set_option maxRecDepth 100000 in
set_option maxHeartbeats 1000000 in
theorem sumR_any {F : Nat → Prop} {w : World} {v : Value} {l : List B} (h : BytesIn F w v l) :
    Calls Try.prog 15 #[v] w fun e w' => e = .returned (.int .i64 (sumL l)) ∧ w = w' := by
  obtain ⟨ad, cp, rfl, hm, hr⟩ := h
  unfold maxLen at hm
  have HR := hid hr
  clear hr
  go_enter Try.func15, Try.ntmps15
  go_wp2
  go_loop [3, 4] (fun n i => ∃ k : Nat, k ≤ l.length ∧ i = .int .i64 k ∧ n = .int .i64 (sumL (l.take k))) (fun _ i => l.length - (intOf i).toNat)
  case atStart => exact ⟨0, Nat.zero_le _, rfl, rfl⟩
  case round =>
    obtain ⟨k, hk, rfl, rfl⟩ := hrel
    have hs := sumL_lt (l.take k)
    by_cases hlt : k < l.length
    · obtain ⟨g, off, rfl, _, x, hx, rfl⟩ := HR.out.at' hlt
      have hc := l[k].toNat_lt
      have hsn := hid (sumL_snoc l k hlt)
      go_wp2
      go_round
      case rel => exact ⟨k + 1, by omega, by go_num, by rw [hsn.out]; go_num⟩
      case measure => simp [intOf]; omega
    · obtain rfl : k = l.length := by omega
      rw [List.take_length]
      go_wp2
      go_ret
      exact ⟨rfl, rfl⟩
end Go.Proofs.Ytdokeelodcckoaa.Im
