/-
  The contracts of the deferred closure in read: where the rule panics, and where it returns.
-/
import Derived.Test.YtcedjjlflahpcaaParI
import Derived.Recover
import Derived.StillTailTactics
namespace Go.Proofs.Ytcedjjlflahpcaa
open Go.RowKit Go.Lib

/-- what the deferred closure leaves -/
def CatchPost (g g1 g2 : Nat) (p x : Int) (w w' : World) : Prop :=
  Below g w w' ∧ w'.heap[g]? = some (.cells reZ 27 (0, 0)) ∧ w'.heap[g1]? = some (.cells #[.int .i64 p] 3 (0, 0)) ∧ w'.heap[g2]? = some (.cells #[.int .i64 x] 28 (0, 0))

theorem catch_idle (a b c : Value) (w : World) :
    CallsD Try.prog 21 #[a, b, c] .returning w fun e u' w' => e = .returned (.tuple #[]) ∧ u' = .returning ∧ w' = w := by
  refine callsD_of_wpS Try.func21 rfl fun c₀ cs hu => ?_
  apply wpS_seq
  apply wpS_region
  simp [wpOpsS, go_sem, recoverD, hu, Try.ntmps21, Exit.thenS]
  apply wpS_seq
  apply wpS_region
  simp [wpOpsS, go_sem, recoverD, hu, Exit.thenS]
  refine wpS_cond (t := false) (by simp [Act.eval, Array.replicate]) ?_
  simp only [Bool.false_eq_true, if_false]
  refine wpS_of_wp (wp_skip ?_)
  cases c₀
  simp_all [bodyPostS, results, Try.results21]

theorem heap_drew (w : World) : w.drew.heap = w.heap := rfl
theorem nine_set (w : World) (g : Nat) (x0 x1 x2 x3 x4 x5 x6 x7 x8 y0 y1 y2 y3 y4 y5 y6 y7 y8 : Value) (h : w.heap[g]? = some (.cells #[x0, x1, x2, x3, x4, x5, x6, x7, x8] 27 (0, 0))) :
    (((((((((w.setCell ⟨g, 0, none⟩ y0).setCell ⟨g, 1, none⟩ y1).setCell ⟨g, 2, none⟩ y2).setCell ⟨g, 3, none⟩ y3).setCell ⟨g, 4, none⟩ y4).setCell ⟨g, 5, none⟩ y5).setCell ⟨g, 6, none⟩ y6).setCell ⟨g, 7, none⟩ y7).setCell ⟨g, 8, none⟩ y8).heap[g]? = some (.cells #[y0, y1, y2, y3, y4, y5, y6, y7, y8] 27 (0, 0)) := by
  have h0 : (w.setCell ⟨g, 0, none⟩ y0).heap[g]? = some (.cells #[y0, x1, x2, x3, x4, x5, x6, x7, x8] 27 (0, 0)) := heap_setCell_same _ g 0 _ 27 y0 h
  have h1 : ((w.setCell ⟨g, 0, none⟩ y0).setCell ⟨g, 1, none⟩ y1).heap[g]? = some (.cells #[y0, y1, x2, x3, x4, x5, x6, x7, x8] 27 (0, 0)) := heap_setCell_same _ g 1 _ 27 y1 h0
  have h2 : (((w.setCell ⟨g, 0, none⟩ y0).setCell ⟨g, 1, none⟩ y1).setCell ⟨g, 2, none⟩ y2).heap[g]? = some (.cells #[y0, y1, y2, x3, x4, x5, x6, x7, x8] 27 (0, 0)) := heap_setCell_same _ g 2 _ 27 y2 h1
  have h3 : ((((w.setCell ⟨g, 0, none⟩ y0).setCell ⟨g, 1, none⟩ y1).setCell ⟨g, 2, none⟩ y2).setCell ⟨g, 3, none⟩ y3).heap[g]? = some (.cells #[y0, y1, y2, y3, x4, x5, x6, x7, x8] 27 (0, 0)) := heap_setCell_same _ g 3 _ 27 y3 h2
  have h4 : (((((w.setCell ⟨g, 0, none⟩ y0).setCell ⟨g, 1, none⟩ y1).setCell ⟨g, 2, none⟩ y2).setCell ⟨g, 3, none⟩ y3).setCell ⟨g, 4, none⟩ y4).heap[g]? = some (.cells #[y0, y1, y2, y3, y4, x5, x6, x7, x8] 27 (0, 0)) := heap_setCell_same _ g 4 _ 27 y4 h3
  have h5 : ((((((w.setCell ⟨g, 0, none⟩ y0).setCell ⟨g, 1, none⟩ y1).setCell ⟨g, 2, none⟩ y2).setCell ⟨g, 3, none⟩ y3).setCell ⟨g, 4, none⟩ y4).setCell ⟨g, 5, none⟩ y5).heap[g]? = some (.cells #[y0, y1, y2, y3, y4, y5, x6, x7, x8] 27 (0, 0)) := heap_setCell_same _ g 5 _ 27 y5 h4
  have h6 : (((((((w.setCell ⟨g, 0, none⟩ y0).setCell ⟨g, 1, none⟩ y1).setCell ⟨g, 2, none⟩ y2).setCell ⟨g, 3, none⟩ y3).setCell ⟨g, 4, none⟩ y4).setCell ⟨g, 5, none⟩ y5).setCell ⟨g, 6, none⟩ y6).heap[g]? = some (.cells #[y0, y1, y2, y3, y4, y5, y6, x7, x8] 27 (0, 0)) := heap_setCell_same _ g 6 _ 27 y6 h5
  have h7 : ((((((((w.setCell ⟨g, 0, none⟩ y0).setCell ⟨g, 1, none⟩ y1).setCell ⟨g, 2, none⟩ y2).setCell ⟨g, 3, none⟩ y3).setCell ⟨g, 4, none⟩ y4).setCell ⟨g, 5, none⟩ y5).setCell ⟨g, 6, none⟩ y6).setCell ⟨g, 7, none⟩ y7).heap[g]? = some (.cells #[y0, y1, y2, y3, y4, y5, y6, y7, x8] 27 (0, 0)) := heap_setCell_same _ g 7 _ 27 y7 h6
  have h8 : (((((((((w.setCell ⟨g, 0, none⟩ y0).setCell ⟨g, 1, none⟩ y1).setCell ⟨g, 2, none⟩ y2).setCell ⟨g, 3, none⟩ y3).setCell ⟨g, 4, none⟩ y4).setCell ⟨g, 5, none⟩ y5).setCell ⟨g, 6, none⟩ y6).setCell ⟨g, 7, none⟩ y7).setCell ⟨g, 8, none⟩ y8).heap[g]? = some (.cells #[y0, y1, y2, y3, y4, y5, y6, y7, y8] 27 (0, 0)) := heap_setCell_same _ g 8 _ 27 y8 h7
  exact h8
theorem nine_other (w : World) (g k : Nat) (y0 y1 y2 y3 y4 y5 y6 y7 y8 : Value) (h : k ≠ g) : (((((((((w.setCell ⟨g, 0, none⟩ y0).setCell ⟨g, 1, none⟩ y1).setCell ⟨g, 2, none⟩ y2).setCell ⟨g, 3, none⟩ y3).setCell ⟨g, 4, none⟩ y4).setCell ⟨g, 5, none⟩ y5).setCell ⟨g, 6, none⟩ y6).setCell ⟨g, 7, none⟩ y7).setCell ⟨g, 8, none⟩ y8).heap[k]? = w.heap[k]? := by
  iterate 9 rw [heap_setCell_other _ ⟨g, _, none⟩ _ _ h]
theorem assert67 (p x : Int) (w : World) : (Instr.typeAssert (.iface 67 (.agg #[.int .i64 p, .int .i64 x])) 20 67 true).run Try.prog w = .ok (.tuple #[.agg #[.int .i64 p, .int .i64 x], .bool true]) w := by kernel_rfl
set_option maxRecDepth 100000 in
set_option maxHeartbeats 1000000 in
theorem catch_panicking (g g1 g2 : Nat) (x0 x1 x2 x3 x4 x5 x6 x7 x8 v1 v2 : Value) (p x : Int) (older : List PanicEntry) (w : World)
    (h0 : w.heap[g]? = some (.cells #[x0, x1, x2, x3, x4, x5, x6, x7, x8] 27 (0, 0))) (h1 : w.heap[g1]? = some (.cells #[v1] 3 (0, 0))) (h2 : w.heap[g2]? = some (.cells #[v2] 28 (0, 0))) (hg1 : g < g1) (hg2 : g1 < g2) :
    CallsD Try.prog 21 #[.pointer (some ⟨g, 0, none⟩), .pointer (some ⟨g1, 0, none⟩), .pointer (some ⟨g2, 0, none⟩)] (.panicking ({ v := .iface 67 (.agg #[.int .i64 p, .int .i64 x]), recovered := false } :: older)) w fun e u' w' =>
      e = .returned (.tuple #[]) ∧ u' = .panicking ({ v := .iface 67 (.agg #[.int .i64 p, .int .i64 x]), recovered := true } :: older) ∧ CatchPost g g1 g2 p x w w' := by
  refine callsD_of_wpS Try.func21 rfl fun c₀ cs hu => ?_
  apply wpS_seq
  apply wpS_region
  simp [wpOpsS, go_sem, recoverD, hu, Try.ntmps21, Exit.thenS]
  apply wpS_seq
  apply wpS_region
  simp [wpOpsS, go_sem, recoverD, Exit.thenS]
  refine wpS_cond (t := true) (by simp [Act.eval, Array.replicate]) ?_
  simp only [if_true]
  refine wpS_of_wp ?_
  have hta := assert67 p x
  clear hu
  rw [show (#[Value.pointer (some { block := g, off := 0 }), Value.pointer (some { block := g1, off := 0 }), Value.pointer (some { block := g2, off := 0 })] ++ ((((Array.replicate 20 undef).setIfInBounds 4 (Value.iface 67 (Value.agg #[Value.int IntKind.i64 p, Value.int IntKind.i64 x]))).setIfInBounds 0 (Value.iface 67 (Value.agg #[Value.int IntKind.i64 p, Value.int IntKind.i64 x]))).setIfInBounds 5 (Value.iface 67 (Value.agg #[Value.int IntKind.i64 p, Value.int IntKind.i64 x]))).setIfInBounds 6 (Value.bool true)) = #[.pointer (some ⟨g, 0, none⟩), .pointer (some ⟨g1, 0, none⟩), .pointer (some ⟨g2, 0, none⟩), .iface 67 (.agg #[.int .i64 p, .int .i64 x]), undef, undef, undef, .iface 67 (.agg #[.int .i64 p, .int .i64 x]), .iface 67 (.agg #[.int .i64 p, .int .i64 x]), .bool true, undef, undef, undef, undef, undef, undef, undef, undef, undef, undef, undef, undef, undef] from by kernel_rfl]
  go_wp2
  have l1 := (Array.getElem?_eq_some_iff.1 h1).1
  have l2 := (Array.getElem?_eq_some_iff.1 h2).1
  have hb : Below w.heap.size w ((w.alloc (.cells #[.int .i64 p, .int .i64 x] 67)).alloc (.cells reZ 27)) := ((Below.refl _ w).alloc (Nat.le_refl _) _).alloc (by simp) _
  have b0 := (hb.block g (by omega)).trans h0
  have b1 := (hb.block g1 (by omega)).trans h1
  have b2 := (hb.block g2 (by omega)).trans h2
  have b3 : ((w.alloc (.cells #[.int .i64 p, .int .i64 x] 67)).alloc (.cells reZ 27)).heap[w.heap.size]? = some (.cells #[.int .i64 p, .int .i64 x] 67 (0, 0)) := (alloc_old (by simp)).trans (heap_alloc_new _ _)
  have b4 : ((w.alloc (.cells #[.int .i64 p, .int .i64 x] 67)).alloc (.cells reZ 27)).heap[w.heap.size + 1]? = some (.cells reZ 27 (0, 0)) := by
    have := heap_alloc_new (w.alloc (.cells #[.int .i64 p, .int .i64 x] 67)) (.cells reZ 27)
    simpa using this
  generalize hw2 : ((w.alloc (.cells #[.int .i64 p, .int .i64 x] 67)).alloc (.cells reZ 27)) = w2 at *
  clear hw2
  have c30 := cell_of_row _ _ 0 _ _ _ b3
  have c31 := cell_of_row _ _ 1 _ _ _ b3
  have c40 := cell_of_row _ _ 0 _ _ _ b4
  have c41 := cell_of_row _ _ 1 _ _ _ b4
  have c42 := cell_of_row _ _ 2 _ _ _ b4
  have c43 := cell_of_row _ _ 3 _ _ _ b4
  have c44 := cell_of_row _ _ 4 _ _ _ b4
  have c45 := cell_of_row _ _ 5 _ _ _ b4
  have c46 := cell_of_row _ _ 6 _ _ _ b4
  have c47 := cell_of_row _ _ 7 _ _ _ b4
  have c48 := cell_of_row _ _ 8 _ _ _ b4
  have d00 := cell_of_row _ _ 0 _ _ _ b0
  have d01 := cell_of_row _ _ 1 _ _ _ b0
  have d02 := cell_of_row _ _ 2 _ _ _ b0
  have d03 := cell_of_row _ _ 3 _ _ _ b0
  have d04 := cell_of_row _ _ 4 _ _ _ b0
  have d05 := cell_of_row _ _ 5 _ _ _ b0
  have d06 := cell_of_row _ _ 6 _ _ _ b0
  have d07 := cell_of_row _ _ 7 _ _ _ b0
  have d08 := cell_of_row _ _ 8 _ _ _ b0
  have f00 := frozen_of_row _ _ 0 _ _ b0
  have f01 := frozen_of_row _ _ 1 _ _ b0
  have f02 := frozen_of_row _ _ 2 _ _ b0
  have f03 := frozen_of_row _ _ 3 _ _ b0
  have f04 := frozen_of_row _ _ 4 _ _ b0
  have f05 := frozen_of_row _ _ 5 _ _ b0
  have f06 := frozen_of_row _ _ 6 _ _ b0
  have f07 := frozen_of_row _ _ 7 _ _ b0
  have f08 := frozen_of_row _ _ 8 _ _ b0
  have d10 := cell_of_row _ _ 0 _ _ _ b1
  have d20 := cell_of_row _ _ 0 _ _ _ b2
  have f10 := frozen_of_row _ _ 0 _ _ b1
  have f20 := frozen_of_row _ _ 0 _ _ b2
  have e1 : g ≠ g1 := by omega
  have e2 : g ≠ g2 := by omega
  have e3 : g1 ≠ g2 := by omega
  have e4 : w.heap.size ≠ g := by omega
  have e5 : w.heap.size ≠ g1 := by omega
  have e6 : w.heap.size ≠ g2 := by omega
  have e7 : w.heap.size + 1 ≠ g := by omega
  have e8 : w.heap.size + 1 ≠ g1 := by omega
  have e9 : w.heap.size + 1 ≠ g2 := by omega
  simp at d00 d01 d02 d03 d04 d05 d06 d07 d08 d10 d20 c30 c31 c40 c41 c42 c43 c44 c45 c46 c47 c48
  go_region
  refine ⟨rfl, _, rfl, .tuple #[], by simp [results, Try.results21, go_sem], rfl, rfl, ?_⟩
  refine ⟨?_, ?_, ?_, ?_⟩
  · refine Below.drew (Below.setCell (Below.setCell (Below.setCell (Below.setCell (Below.setCell (Below.setCell (Below.setCell (Below.setCell (Below.setCell (Below.setCell (Below.setCell (hb.mono (by omega)) ?_ _) ?_ _) ?_ _) ?_ _) ?_ _) ?_ _) ?_ _) ?_ _) ?_ _) ?_ _) ?_ _)
    all_goals (dsimp only; omega)
  · rw [heap_drew, heap_setCell_other _ _ _ _ e2, heap_setCell_other _ _ _ _ e1]
    exact nine_set w2 g _ _ _ _ _ _ _ _ _ _ _ _ _ _ _ _ _ _ b0
  · rw [heap_drew, heap_setCell_other _ _ _ _ e3]
    exact heap_setCell_same _ g1 0 #[v1] 3 _ ((nine_other w2 g g1 _ _ _ _ _ _ _ _ _ (Ne.symm e1)).trans b1)
  · rw [heap_drew]
    exact heap_setCell_same _ g2 0 #[v2] 28 _ ((heap_setCell_other _ _ _ _ (Ne.symm e3)).trans ((nine_other w2 g g2 _ _ _ _ _ _ _ _ _ (Ne.symm e2)).trans b2))
end Go.Proofs.Ytcedjjlflahpcaa
