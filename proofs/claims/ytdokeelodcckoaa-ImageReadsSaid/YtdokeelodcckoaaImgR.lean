/-
  The contract of the writer's method rule; how a rule lies in memory.
-/
import Derived.Test.YtdokeelodcckoaaImgZ
namespace Go.Proofs.Ytdokeelodcckoaa.Im
open Go.RowKit Go.Lib

/-- sixteen cells that read as a rule -/
structure RuleIn (F : Nat → Prop) (w : World) (cs : List Value) (r : Rule) : Prop where
  is : ∃ a1 b1 c1 a2 b2 c2 a3 b3 c3 f na ou fi ta, cs = [a1, b1, c1, a2, b2, c2, a3, b3, c3, .string ⟨r.out.toArray⟩, .bool r.mapped, f, na, ou, fi, ta] ∧
    DfaIn F w a1 b1 c1 r.of ∧ DfaIn F w a2 b2 c2 r.left ∧ DfaIn F w a3 b3 c3 r.right ∧ SqIn F w f na ou fi ta r.by_
theorem RuleIn.frame {F F' : Nat → Prop} {w w' : World} {cs : List Value} {r : Rule} (h : RuleIn F w cs r) (hF : ∀ g, F g → F' g) (hw : ∀ g, F g → g < w.heap.size → w'.heap[g]? = w.heap[g]?) : RuleIn F' w' cs r := by
  obtain ⟨a1, b1, c1, a2, b2, c2, a3, b3, c3, f, na, ou, fi, ta, h0, h1, h2, h3, h4⟩ := h.is
  exact ⟨⟨a1, b1, c1, a2, b2, c2, a3, b3, c3, f, na, ou, fi, ta, h0, h1.frame hF hw, h2.frame hF hw, h3.frame hF hw, h4.frame hF hw⟩⟩
theorem rcells {w : World} {D : Nat} {T : TypeId} {v0 v1 v2 v3 v4 v5 v6 v7 v8 v9 v10 v11 v12 v13 v14 v15 : Value} (h : w.heap[D]? = some (.cells #[v0, v1, v2, v3, v4, v5, v6, v7, v8, v9, v10, v11, v12, v13, v14, v15] T (0, 0))) :
    w.cell? ⟨D, 0, none⟩ = some v0 ∧ w.cell? ⟨D, 1, none⟩ = some v1 ∧ w.cell? ⟨D, 2, none⟩ = some v2 ∧ w.cell? ⟨D, 3, none⟩ = some v3 ∧ w.cell? ⟨D, 4, none⟩ = some v4 ∧ w.cell? ⟨D, 5, none⟩ = some v5 ∧ w.cell? ⟨D, 6, none⟩ = some v6 ∧ w.cell? ⟨D, 7, none⟩ = some v7 ∧ w.cell? ⟨D, 8, none⟩ = some v8 ∧ w.cell? ⟨D, 9, none⟩ = some v9 ∧ w.cell? ⟨D, 10, none⟩ = some v10 ∧ w.cell? ⟨D, 11, none⟩ = some v11 ∧ w.cell? ⟨D, 12, none⟩ = some v12 ∧ w.cell? ⟨D, 13, none⟩ = some v13 ∧ w.cell? ⟨D, 14, none⟩ = some v14 ∧ w.cell? ⟨D, 15, none⟩ = some v15 :=
  ⟨cell_blk h rfl, cell_blk h rfl, cell_blk h rfl, cell_blk h rfl, cell_blk h rfl, cell_blk h rfl, cell_blk h rfl, cell_blk h rfl, cell_blk h rfl, cell_blk h rfl, cell_blk h rfl, cell_blk h rfl, cell_blk h rfl, cell_blk h rfl, cell_blk h rfl, cell_blk h rfl⟩
structure RuleIs (r : Rule) : Prop where
  of : dfaOk r.of = true
  left : dfaOk r.left = true
  right : dfaOk r.right = true
  by_ : r.mapped = true → sqOk r.by_ = true
  out : r.mapped = false → r.out.length ≤ 256
theorem ruleOk_is {r : Rule} (h : ruleOk r = true) : RuleIs r := by
  simp only [ruleOk, Bool.and_eq_true] at h
  obtain ⟨⟨⟨h1, h2⟩, h3⟩, h4⟩ := h
  refine ⟨h1, h2, h3, fun e => ?_, fun e => ?_⟩
  · rw [e] at h4; simp only [if_true, Bool.and_eq_true] at h4; exact h4.1
  · rw [e] at h4; simp only [Bool.false_eq_true, if_false, Bool.and_eq_true, decide_eq_true_eq] at h4; exact h4.2

set_option maxRecDepth 100000 in
set_option maxHeartbeats 2000000 in
theorem ruleW_any {P : Nat} {w : World} {l : List B} {F : Nat → Prop} {cs : List Value} {r : Rule} (h : WOwn P w l) (hr : RuleIn F w cs r) (hF : ∀ g, F g → g < P) (hok : ruleOk r = true) :
    Calls Try.prog 22 #[.pointer (some ⟨P, 0, none⟩), .agg cs.toArray] w fun e w' => e = .returned (.tuple #[]) ∧ WOwn P w' (l ++ eRule r) ∧ Upd P w w' := by
  obtain ⟨rof, rleft, rright, rout, rm, rby⟩ := r
  have hi := ruleOk_is hok
  obtain ⟨a1, b1, c1, a2, b2, c2, a3, b3, c3, f, na, ou, fi, ta, rfl, h1, h2, h3, h4⟩ := hr.is
  simp only at h1 h2 h3 h4
  have hP := h.lt
  generalize hW0 : w.alloc (.cells #[a1, b1, c1, a2, b2, c2, a3, b3, c3, .string ⟨rout.toArray⟩, .bool rm, f, na, ou, fi, ta] 52) = W0
  have hDb : W0.heap[w.heap.size]? = some (.cells #[a1, b1, c1, a2, b2, c2, a3, b3, c3, .string ⟨rout.toArray⟩, .bool rm, f, na, ou, fi, ta] 52 (0, 0)) := by rw [← hW0]; exact heap_alloc_new _ _
  have h0 : WOwn P W0 l := by rw [← hW0]; exact h.alloc _
  have hU0 : Upd P w W0 := by rw [← hW0]; exact (Upd.refl P w).alloc _
  have low : ∀ w' : World, Upd P W0 w' → ∀ g, F g → g < w.heap.size → w'.heap[g]? = w.heap[g]? := fun w' hu g hg _ => ((hU0.trans hu).low hP).block g (hF g hg)
  have HI := hid hi
  have HDB := hid hDb
  have H0 := hid h0
  have HW0 := hid hW0
  have LOW := hid low
  clear h hi hDb h0 hW0 hok hr low
  have e1 : ∀ (y : List B), l ++ eRule ⟨rof, rleft, rright, rout, rm, rby⟩ = l ++ eBit rm ++ eDfa rof ++ eDfa rleft ++ eDfa rright ++ eBy ⟨rof, rleft, rright, rout, rm, rby⟩ := fun _ => by simp [eRule]
  rw [e1 []]
  clear e1
  go_enter Try.func22, Try.ntmps22
  go_wp2_with fail
  rw [HW0.out]
  refine (bitW_any _ H0.out).mono ?_
  rintro e w1 ⟨rfl, hW1, hU1⟩
  obtain ⟨q0, q1, q2, q3, q4, q5, q6, q7, q8, q9, q10, q11, q12, q13, q14, q15⟩ := rcells (hU1.row HDB.out (by decide) (by omega))
  go_wp2_with fail
  refine (autoW_any hW1 (h1.frame (fun _ h => h) (LOW.out w1 hU1)) hF HI.out.of).mono ?_
  rintro e w2 ⟨rfl, hW2, hU2⟩
  have hV2 := hU1.trans hU2
  clear q0 q1 q2 q3 q4 q5 q6 q7 q8 q9 q10 q11 q12 q13 q14 q15
  obtain ⟨q0, q1, q2, q3, q4, q5, q6, q7, q8, q9, q10, q11, q12, q13, q14, q15⟩ := rcells (hV2.row HDB.out (by decide) (by omega))
  go_wp2_with fail
  refine (autoW_any hW2 (h2.frame (fun _ h => h) (LOW.out w2 hV2)) hF HI.out.left).mono ?_
  rintro e w3 ⟨rfl, hW3, hU3⟩
  have hV3 := hV2.trans hU3
  clear q0 q1 q2 q3 q4 q5 q6 q7 q8 q9 q10 q11 q12 q13 q14 q15
  obtain ⟨q0, q1, q2, q3, q4, q5, q6, q7, q8, q9, q10, q11, q12, q13, q14, q15⟩ := rcells (hV3.row HDB.out (by decide) (by omega))
  go_wp2_with fail
  refine (autoW_any hW3 (h3.frame (fun _ h => h) (LOW.out w3 hV3)) hF HI.out.right).mono ?_
  rintro e w4 ⟨rfl, hW4, hU4⟩
  have hV4 := hV3.trans hU4
  clear q0 q1 q2 q3 q4 q5 q6 q7 q8 q9 q10 q11 q12 q13 q14 q15
  obtain ⟨q0, q1, q2, q3, q4, q5, q6, q7, q8, q9, q10, q11, q12, q13, q14, q15⟩ := rcells (hV4.row HDB.out (by decide) (by omega))
  cases rm
  · have ho := HI.out.out rfl
    simp only at ho
    go_wp2_with (go_at_call 23; refine (textL_any _ (by omega) hW4).mono ?_; rintro e w5 ⟨rfl, hW5, hU5⟩)
    go_end0
    exact ⟨rfl, hW5, hU0.trans (hV4.trans hU5)⟩
  · have hq := HI.out.by_ rfl
    simp only at hq
    have HQ := hid hq
    clear hq
    go_wp2_with (go_at_call 39; refine (sqW_any hW4 (h4.frame (fun _ h => h) (LOW.out w4 hV4)) hF HQ.out).mono ?_; rintro e w5 ⟨rfl, hW5, hU5⟩)
    go_end0
    exact ⟨rfl, hW5, hU0.trans (hV4.trans hU5)⟩
end Go.Proofs.Ytdokeelodcckoaa.Im
