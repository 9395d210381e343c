/-
  The contract of rewrite.Check.
-/
import Derived.Test.YtdokeelodcckoaaImgG
namespace Go.Proofs.Ytdokeelodcckoaa.Im
open Go.RowKit Go.Lib

/-- lengths that no memory passes -/
structure SqLens (q : Sq) : Prop where
  front : q.front.length ≤ 9223372036854775807
  tail : ∀ t ∈ q.tail, t.length ≤ 9223372036854775807
  outs : ∀ l ∈ q.outs, ∀ o ∈ l, o.length ≤ 9223372036854775807
structure RuleLens (r : Rule) : Prop where
  by_ : SqLens r.by_
  out : r.out.length ≤ 9223372036854775807
theorem DfaIn.shape {F : Nat → Prop} {w : World} {a b c : Value} {d : Dfa} (h : DfaIn F w a b c d) : ∃ x1 p1 x2 p2 x3 p3, a = .slice x1 d.cls.length p1 ∧ b = .slice x2 d.next.length p2 ∧ c = .slice x3 d.fin.length p3 := by
  obtain ⟨⟨x1, p1, h1, _⟩, ⟨x2, p2, h2, _⟩, ⟨x3, p3, h3, _⟩⟩ := h
  exact ⟨x1, p1, x2, p2, x3, p3, h1, h2, h3⟩
theorem SqIn.shape {F : Nat → Prop} {w : World} {f a b c d : Value} {q : Sq} (h : SqIn F w f a b c d q) : ∃ x1 p1 x2 p2 x3 p3 x4 p4, f = .string ⟨q.front.toArray⟩ ∧ a = .slice x1 q.next.length p1 ∧ b = .slice x2 q.outs.length p2 ∧ c = .slice x3 q.fin.length p3 ∧ d = .slice x4 q.tail.length p4 := by
  obtain ⟨h0, ⟨x1, p1, h1, _⟩, ⟨x2, p2, h2, _⟩, ⟨x3, p3, h3, _⟩, ⟨x4, p4, h4, _⟩⟩ := h
  exact ⟨x1, p1, x2, p2, x3, p3, x4, p4, h0, h1, h2, h3, h4⟩
theorem ncells {w : World} {D : Nat} {T : TypeId} {v0 v1 v2 v3 v4 v5 v6 v7 v8 : Value} (h : w.heap[D]? = some (.cells #[v0, v1, v2, v3, v4, v5, v6, v7, v8] T (0, 0))) :
    w.cell? ⟨D, 0, none⟩ = some v0 ∧ w.cell? ⟨D, 1, none⟩ = some v1 ∧ w.cell? ⟨D, 2, none⟩ = some v2 ∧ w.cell? ⟨D, 3, none⟩ = some v3 ∧ w.cell? ⟨D, 4, none⟩ = some v4 ∧ w.cell? ⟨D, 5, none⟩ = some v5 ∧ w.cell? ⟨D, 6, none⟩ = some v6 ∧ w.cell? ⟨D, 7, none⟩ = some v7 ∧ w.cell? ⟨D, 8, none⟩ = some v8 :=
  ⟨cell_blk h rfl, cell_blk h rfl, cell_blk h rfl, cell_blk h rfl, cell_blk h rfl, cell_blk h rfl, cell_blk h rfl, cell_blk h rfl, cell_blk h rfl⟩

set_option maxRecDepth 100000 in
set_option maxHeartbeats 2000000 in
theorem ruleCheck_any {F : Nat → Prop} {w : World} {cs : List Value} {r : Rule} (hr : RuleIn F w cs r) (hF : ∀ g, F g → g < w.heap.size) (hlens : RuleLens r) :
    Calls Try.prog 28 #[.agg cs.toArray] w fun e w' => e = .returned (.int .i64 (errOf (ruleOk r))) ∧ Below w.heap.size w w' := by
  obtain ⟨rof, rleft, rright, rout, rm, rby⟩ := r
  obtain ⟨a1, b1, c1, a2, b2, c2, a3, b3, c3, f, na, ou, fi, ta, rfl, h1, h2, h3, h4⟩ := hr.is
  simp only at h1 h2 h3 h4
  obtain ⟨x1, p1, y1, q1, z1, s1, rfl, rfl, rfl⟩ := h1.shape
  obtain ⟨x2, p2, y2, q2, z2, s2, rfl, rfl, rfl⟩ := h2.shape
  obtain ⟨x3, p3, y3, q3, z3, s3, rfl, rfl, rfl⟩ := h3.shape
  obtain ⟨x4, p4, y4, q4, z4, s4, v4, t4, rfl, rfl, rfl, rfl, rfl⟩ := h4.shape
  have H1 := hid h1
  have H2 := hid h2
  have H3 := hid h3
  have H4 := hid h4
  have HL := hid hlens
  have hol : rout.length ≤ 9223372036854775807 := hlens.out
  have no1 : dfaOk rof = false → Hid (errOf (ruleOk ⟨rof, rleft, rright, rout, rm, rby⟩) = 1) := fun h => hid (errOf_false (by simp [ruleOk, h]))
  have no2 : dfaOk rleft = false → Hid (errOf (ruleOk ⟨rof, rleft, rright, rout, rm, rby⟩) = 1) := fun h => hid (errOf_false (by simp [ruleOk, h]))
  have no3 : dfaOk rright = false → Hid (errOf (ruleOk ⟨rof, rleft, rright, rout, rm, rby⟩) = 1) := fun h => hid (errOf_false (by simp [ruleOk, h]))
  have NO := hid (And.intro no1 (And.intro no2 no3))
  have HFF := hid hF
  clear h1 h2 h3 h4 hr hlens no1 no2 no3 hF
  go_enter Try.func28, Try.ntmps28
  go_wp2_with fail
  have hB0 : Below w.heap.size w ((w.alloc (.cells #[.slice x1 rof.cls.length p1, .slice y1 rof.next.length q1, .slice z1 rof.fin.length s1, .slice x2 rleft.cls.length p2, .slice y2 rleft.next.length q2, .slice z2 rleft.fin.length s2, .slice x3 rright.cls.length p3, .slice y3 rright.next.length q3, .slice z3 rright.fin.length s3, .string ⟨rout.toArray⟩, .bool rm, .string ⟨rby.front.toArray⟩, .slice x4 rby.next.length p4, .slice y4 rby.outs.length q4, .slice z4 rby.fin.length s4, .slice v4 rby.tail.length t4] 52)).alloc (.cells #[.slice x1 rof.cls.length p1, .slice y1 rof.next.length q1, .slice z1 rof.fin.length s1, .slice x2 rleft.cls.length p2, .slice y2 rleft.next.length q2, .slice z2 rleft.fin.length s2, .slice x3 rright.cls.length p3, .slice y3 rright.next.length q3, .slice z3 rright.fin.length s3] 46)) := ((Below.refl _ w).alloc (Nat.le_refl _) _).alloc (by simp) _
  go_loopw [14] (fun v wr => ∃ k : Nat, k ≤ 3 ∧ v = .int .i64 k ∧ Below (w.heap.size + 2) ((w.alloc (.cells #[.slice x1 rof.cls.length p1, .slice y1 rof.next.length q1, .slice z1 rof.fin.length s1, .slice x2 rleft.cls.length p2, .slice y2 rleft.next.length q2, .slice z2 rleft.fin.length s2, .slice x3 rright.cls.length p3, .slice y3 rright.next.length q3, .slice z3 rright.fin.length s3, .string ⟨rout.toArray⟩, .bool rm, .string ⟨rby.front.toArray⟩, .slice x4 rby.next.length p4, .slice y4 rby.outs.length q4, .slice z4 rby.fin.length s4, .slice v4 rby.tail.length t4] 52)).alloc (.cells #[.slice x1 rof.cls.length p1, .slice y1 rof.next.length q1, .slice z1 rof.fin.length s1, .slice x2 rleft.cls.length p2, .slice y2 rleft.next.length q2, .slice z2 rleft.fin.length s2, .slice x3 rright.cls.length p3, .slice y3 rright.next.length q3, .slice z3 rright.fin.length s3] 46)) wr ∧ Hid ((0 < k → dfaOk rof = true) ∧ (1 < k → dfaOk rleft = true) ∧ (2 < k → dfaOk rright = true))) (fun v _ => 3 - (intOf v).toNat)
  case atStart => exact ⟨0, by omega, rfl, Below.refl _ _, hid ⟨by omega, by omega, by omega⟩⟩
  case round =>
    obtain ⟨k, hk, rfl, hbr, hoks⟩ := hrel
    have hsz : w.heap.size + 2 ≤ wr.heap.size := by have := hbr.size; simp at this; omega
    have hBr : Below w.heap.size w wr := hB0.trans (hbr.mono (by omega))
    have HB0 := hid ((hbr.block w.heap.size (by omega)).trans (heap_alloc2_old _ _ _))
    have HB1 := hid ((hbr.block (w.heap.size + 1) (by omega)).trans (heap_alloc2_new _ _ _))
    by_cases hlt : k < 3
    · obtain ⟨n0, n1, n2, n3, n4, n5, n6, n7, n8⟩ := ncells HB1.out
      have low : ∀ o : Obj, ∀ g, F g → g < w.heap.size → (wr.alloc o).heap[g]? = w.heap[g]? := fun o g hg hl => (alloc_old (by omega)).trans (hBr.block g hl)
      have hFr : ∀ o : Obj, ∀ g, F g → g < (wr.alloc o).heap.size := fun o g hg => by have := HFF.out g hg; simp; omega
      have LOW := hid low
      have HFR := hid hFr
      clear low hFr
      obtain rfl | rfl | rfl : k = 0 ∨ k = 1 ∨ k = 2 := by omega
      · rcases (Bool.eq_false_or_eq_true (dfaOk rof)).symm with hx | hx
        · have hno := NO.out.1 hx
          have HX := hid hx
          clear hx
          go_wp2_with (go_at_call 46; refine (dfaCheck_any (H1.out.frame (fun _ h => h) (LOW.out _)) (HFR.out _)).mono ?_; rintro e w1 ⟨rfl, hb1⟩; rw [HX.out, errOf_false rfl])
          go_ret
          exact ⟨err_eq hno.out.symm, bnext (bbox hBr _) hb1⟩
        · have hyes := hid (show (0 < 0 + 1 → dfaOk rof = true) ∧ (1 < 0 + 1 → dfaOk rleft = true) ∧ (2 < 0 + 1 → dfaOk rright = true) from ⟨fun _ => hx, by omega, by omega⟩)
          have HX := hid hx
          clear hx
          go_wp2_with (go_at_call 46; refine (dfaCheck_any (H1.out.frame (fun _ h => h) (LOW.out _)) (HFR.out _)).mono ?_; rintro e w1 ⟨rfl, hb1⟩; rw [HX.out, errOf_true rfl])
          go_roundw
          case rel => exact ⟨0 + 1, by omega, by go_num, (hbr.alloc (by omega) _).trans (hb1.mono (by simp; omega)), hyes⟩
          case measure => simp [intOf]
      · rcases (Bool.eq_false_or_eq_true (dfaOk rleft)).symm with hx | hx
        · have hno := NO.out.2.1 hx
          have HX := hid hx
          clear hx
          go_wp2_with (go_at_call 46; refine (dfaCheck_any (H2.out.frame (fun _ h => h) (LOW.out _)) (HFR.out _)).mono ?_; rintro e w1 ⟨rfl, hb1⟩; rw [HX.out, errOf_false rfl])
          go_ret
          exact ⟨err_eq hno.out.symm, bnext (bbox hBr _) hb1⟩
        · have hyes := hid (show (0 < 1 + 1 → dfaOk rof = true) ∧ (1 < 1 + 1 → dfaOk rleft = true) ∧ (2 < 1 + 1 → dfaOk rright = true) from ⟨fun _ => hoks.out.1 (by omega), fun _ => hx, by omega⟩)
          have HX := hid hx
          clear hx
          go_wp2_with (go_at_call 46; refine (dfaCheck_any (H2.out.frame (fun _ h => h) (LOW.out _)) (HFR.out _)).mono ?_; rintro e w1 ⟨rfl, hb1⟩; rw [HX.out, errOf_true rfl])
          go_roundw
          case rel => exact ⟨1 + 1, by omega, by go_num, (hbr.alloc (by omega) _).trans (hb1.mono (by simp; omega)), hyes⟩
          case measure => simp [intOf]
      · rcases (Bool.eq_false_or_eq_true (dfaOk rright)).symm with hx | hx
        · have hno := NO.out.2.2 hx
          have HX := hid hx
          clear hx
          go_wp2_with (go_at_call 46; refine (dfaCheck_any (H3.out.frame (fun _ h => h) (LOW.out _)) (HFR.out _)).mono ?_; rintro e w1 ⟨rfl, hb1⟩; rw [HX.out, errOf_false rfl])
          go_ret
          exact ⟨err_eq hno.out.symm, bnext (bbox hBr _) hb1⟩
        · have hyes := hid (show (0 < 2 + 1 → dfaOk rof = true) ∧ (1 < 2 + 1 → dfaOk rleft = true) ∧ (2 < 2 + 1 → dfaOk rright = true) from ⟨fun _ => hoks.out.1 (by omega), fun _ => hoks.out.2.1 (by omega), fun _ => hx⟩)
          have HX := hid hx
          clear hx
          go_wp2_with (go_at_call 46; refine (dfaCheck_any (H3.out.frame (fun _ h => h) (LOW.out _)) (HFR.out _)).mono ?_; rintro e w1 ⟨rfl, hb1⟩; rw [HX.out, errOf_true rfl])
          go_roundw
          case rel => exact ⟨2 + 1, by omega, by go_num, (hbr.alloc (by omega) _).trans (hb1.mono (by simp; omega)), hyes⟩
          case measure => simp [intOf]
    · obtain rfl : k = 3 := by omega
      have hrk := hid (show ruleOk ⟨rof, rleft, rright, rout, rm, rby⟩ = (if rm then sqOk rby && decide (rout = []) else sqNone rby && decide (rout.length ≤ 256)) by
        unfold ruleOk
        simp only
        rw [hoks.out.1 (by omega), hoks.out.2.1 (by omega), hoks.out.2.2 (by omega)]
        simp)
      obtain ⟨r0, r1, r2, r3, r4, r5, r6, r7, r8, r9, r10, r11, r12, r13, r14, r15⟩ := rcells HB0.out
      clear hoks
      cases rm
      · simp only [Bool.false_eq_true, if_false] at hrk
        have hl1 : rby.next.length ≤ 9223372036854775807 := by obtain ⟨_, _, e, h, _⟩ := H4.out.next; exact h
        have hl2 : rby.outs.length ≤ 9223372036854775807 := by obtain ⟨_, _, e, h, _⟩ := H4.out.outs; exact h
        have hl3 : rby.fin.length ≤ 9223372036854775807 := by obtain ⟨_, _, e, h, _⟩ := H4.out.fin; exact h
        have hl4 : rby.tail.length ≤ 9223372036854775807 := by obtain ⟨_, _, e, h, _⟩ := H4.out.tail; exact h
        have r9' : ∀ o : Obj, (wr.alloc o).cell? ⟨w.heap.size, 9, none⟩ = some (.string ⟨rout.toArray⟩) := fun o => (cell_heap (alloc_old (by omega))).trans r9
        have hBB : ∀ o : Obj, Below w.heap.size w (wr.alloc o) := fun o => bbox hBr o
        by_cases e0 : rby.front = []
        · by_cases e1 : rby.next.length = 0
          · by_cases e2 : rby.outs.length = 0
            · by_cases e3 : rby.fin.length = 0
              · by_cases e4 : rby.tail.length = 0
                · have e0' : (!rby.front.isEmpty) = false := by rw [e0]; rfl
                  have e1' : decide (0 < rby.next.length) = false := by rw [decide_eq_false_iff_not]; omega
                  have e2' : decide (0 < rby.outs.length) = false := by rw [decide_eq_false_iff_not]; omega
                  have e3' : decide (0 < rby.fin.length) = false := by rw [decide_eq_false_iff_not]; omega
                  have e4' : decide (0 < rby.tail.length) = false := by rw [decide_eq_false_iff_not]; omega
                  have hn : sqNone rby = true := by unfold sqNone; simp only [e0, e1, e2, e3, e4]; rfl
                  by_cases e5 : 256 < rout.length
                  · have hno := hid (errOf_false (hrk.out.trans (show _ = false by simp [hn]; omega)))
                    have e5' : (256 : Int) < (rout.length : Int) := by omega
                    clear e0 e1 e2 e3 e4 e5 hn
                    go_wp2
                    go_ret
                    exact ⟨err_eq hno.out.symm, hBB _⟩
                  · have hno := hid (errOf_true (hrk.out.trans (show _ = true by simp [hn]; omega)))
                    have e5' : ¬ (256 : Int) < (rout.length : Int) := by omega
                    clear e0 e1 e2 e3 e4 e5 hn
                    go_wp2
                    go_ret
                    exact ⟨err_eq hno.out.symm, hBB _⟩
                · have hno := hid (errOf_false (hrk.out.trans (show _ = false by simp [sqNone, e4])))
                  have e0' : (!rby.front.isEmpty) = false := by rw [e0]; rfl
                  have e1' : decide (0 < rby.next.length) = false := by rw [decide_eq_false_iff_not]; omega
                  have e2' : decide (0 < rby.outs.length) = false := by rw [decide_eq_false_iff_not]; omega
                  have e3' : decide (0 < rby.fin.length) = false := by rw [decide_eq_false_iff_not]; omega
                  have e4' : decide (0 < rby.tail.length) = true := by rw [decide_eq_true_eq]; omega
                  clear e0 e1 e2 e3 e4
                  go_wp2
                  go_ret
                  exact ⟨err_eq hno.out.symm, hBB _⟩
              · have hno := hid (errOf_false (hrk.out.trans (show _ = false by simp [sqNone, e3])))
                have e0' : (!rby.front.isEmpty) = false := by rw [e0]; rfl
                have e1' : decide (0 < rby.next.length) = false := by rw [decide_eq_false_iff_not]; omega
                have e2' : decide (0 < rby.outs.length) = false := by rw [decide_eq_false_iff_not]; omega
                have e3' : decide (0 < rby.fin.length) = true := by rw [decide_eq_true_eq]; omega
                clear e0 e1 e2 e3
                go_wp2
                go_ret
                exact ⟨err_eq hno.out.symm, hBB _⟩
            · have hno := hid (errOf_false (hrk.out.trans (show _ = false by simp [sqNone, e2])))
              have e0' : (!rby.front.isEmpty) = false := by rw [e0]; rfl
              have e1' : decide (0 < rby.next.length) = false := by rw [decide_eq_false_iff_not]; omega
              have e2' : decide (0 < rby.outs.length) = true := by rw [decide_eq_true_eq]; omega
              clear e0 e1 e2
              go_wp2
              go_ret
              exact ⟨err_eq hno.out.symm, hBB _⟩
          · have hno := hid (errOf_false (hrk.out.trans (show _ = false by simp [sqNone, e1])))
            have e0' : (!rby.front.isEmpty) = false := by rw [e0]; rfl
            have e1' : decide (0 < rby.next.length) = true := by rw [decide_eq_true_eq]; omega
            clear e0 e1
            go_wp2
            go_ret
            exact ⟨err_eq hno.out.symm, hBB _⟩
        · have hno := hid (errOf_false (hrk.out.trans (show _ = false by simp [sqNone, e0])))
          have e0' : (!rby.front.isEmpty) = true := by simpa using e0
          clear e0
          go_wp2
          go_ret
          exact ⟨err_eq hno.out.symm, hBB _⟩
      · simp only [if_true] at hrk
        have low : ∀ g, F g → g < w.heap.size → wr.heap[g]? = w.heap[g]? := fun g hg hl => hBr.block g hl
        have hFr : ∀ g, F g → g < wr.heap.size := fun g hg => by have := HFF.out g hg; omega
        have HSQ := hid (H4.out.frame (F' := F) (fun _ h => h) low)
        have HFR := hid hFr
        clear low hFr
        rcases (Bool.eq_false_or_eq_true (sqOk rby)).symm with hx | hx
        · have hno := hid (errOf_false (hrk.out.trans (show _ = false by simp [hx])))
          have HX := hid hx
          clear hx
          go_wp2_with (go_at_call 47; refine (sqCheck_any HSQ.out HFR.out HL.out.by_.front HL.out.by_.tail HL.out.by_.outs).mono ?_; rintro e w1 ⟨rfl, hb1⟩; rw [HX.out, errOf_false rfl])
          go_ret
          exact ⟨err_eq hno.out.symm, bnext hBr hb1⟩
        · by_cases e0 : rout = []
          · have hno := hid (errOf_true (hrk.out.trans (show _ = true by simp [hx, e0])))
            have HX := hid hx
            have e0' : (!rout.isEmpty) = false := by rw [e0]; rfl
            clear hx e0
            go_wp2_with (go_at_call 47; refine (sqCheck_any HSQ.out HFR.out HL.out.by_.front HL.out.by_.tail HL.out.by_.outs).mono ?_; rintro e w1 ⟨rfl, hb1⟩; rw [HX.out, errOf_true rfl]; obtain ⟨r0, r1, r2, r3, r4, r5, r6, r7, r8, r9, r10, r11, r12, r13, r14, r15⟩ := rcells ((hb1.block w.heap.size (by omega)).trans HB0.out))
            go_ret
            exact ⟨err_eq hno.out.symm, bnext hBr hb1⟩
          · have hno := hid (errOf_false (hrk.out.trans (show _ = false by simp [e0])))
            have HX := hid hx
            have e0' : (!rout.isEmpty) = true := by simpa using e0
            clear hx e0
            go_wp2_with (go_at_call 47; refine (sqCheck_any HSQ.out HFR.out HL.out.by_.front HL.out.by_.tail HL.out.by_.outs).mono ?_; rintro e w1 ⟨rfl, hb1⟩; rw [HX.out, errOf_true rfl]; obtain ⟨r0, r1, r2, r3, r4, r5, r6, r7, r8, r9, r10, r11, r12, r13, r14, r15⟩ := rcells ((hb1.block w.heap.size (by omega)).trans HB0.out))
            go_ret
            exact ⟨err_eq hno.out.symm, bnext hBr hb1⟩
end Go.Proofs.Ytdokeelodcckoaa.Im
