/-
  read where the lexer finds a fault: the contract, for a text of no more than 65536 bytes.
-/
import Derived.Test.YtcedjjlflahpcaaParK
namespace Go.Proofs.Ytcedjjlflahpcaa
open Go.RowKit Go.Lib

set_option maxRecDepth 100000 in
set_option maxHeartbeats 1000000 in
theorem readRe_lex (s : ByteArray) (w : World) (hs : s.size ≤ 65536) (f : Value) {p : Nat} {x : Int} (hx : allT s = .error (p, x)) :
    Calls Try.prog 12 #[.string s, f] w (ReadPost s w (.error (p, x))) := by
  have HX := hid hx
  clear hx
  have hs2 : s.size ≤ 140737488351232 := by omega
  have e1 : w.heap.size ≠ w.heap.size + 1 := by omega
  have e2 : w.heap.size ≠ w.heap.size + 1 + 1 := by omega
  have e3 : w.heap.size + 1 ≠ w.heap.size + 1 + 1 := by omega
  go_enter_defers Try.func12, Try.ntmps12
  go_wp2_with (go_at_call 20; refine (all_any s _ hs2).mono ?_; rintro e w1 hp; obtain ⟨hb, hne, rfl⟩ := hp.bad HX.out; have b0 := (hb.block w.heap.size (by simp; omega)).trans (w3_b0 w); have b1 := (hb.block (w.heap.size + 1) (by simp)).trans (w3_b1 w); have b2 := (hb.block (w.heap.size + 1 + 1) (by simp)).trans (w3_b2 w); have c1 : w1.cell? ⟨w.heap.size + 1, 0, none⟩ = some (.int .i64 0) := cell_of_row _ _ 0 _ _ _ b1; have c2 : w1.cell? ⟨w.heap.size + 1 + 1, 0, none⟩ = some (.int .i64 0) := cell_of_row _ _ 0 _ _ _ b2; have f1 := frozen_of_row _ _ 0 _ _ b1; have f2 := frozen_of_row _ _ 0 _ _ b2)
  have m0 : ((w1.setCell ⟨w.heap.size + 1, 0, none⟩ (.int .i64 p)).setCell ⟨w.heap.size + 1 + 1, 0, none⟩ (.int .i64 x)).heap[w.heap.size]? = some (.cells reZ 27 (0, 0)) := (heap_setCell_other _ _ _ _ e2).trans ((heap_setCell_other _ _ _ _ e1).trans b0)
  have m1 : ((w1.setCell ⟨w.heap.size + 1, 0, none⟩ (.int .i64 p)).setCell ⟨w.heap.size + 1 + 1, 0, none⟩ (.int .i64 x)).heap[w.heap.size + 1]? = some (.cells #[.int .i64 p] 3 (0, 0)) := (heap_setCell_other _ _ _ _ e3).trans (heap_setCell_same _ _ 0 _ _ _ b1)
  have m2 : ((w1.setCell ⟨w.heap.size + 1, 0, none⟩ (.int .i64 p)).setCell ⟨w.heap.size + 1 + 1, 0, none⟩ (.int .i64 x)).heap[w.heap.size + 1 + 1]? = some (.cells #[.int .i64 x] 28 (0, 0)) := heap_setCell_same _ _ 0 _ _ _ ((heap_setCell_other _ _ _ _ (Ne.symm e3)).trans b2)
  have mb : Below w.heap.size w ((w1.setCell ⟨w.heap.size + 1, 0, none⟩ (.int .i64 p)).setCell ⟨w.heap.size + 1 + 1, 0, none⟩ (.int .i64 x)) := (((w3_below w).trans (hb.mono (by simp; omega))).setCell (by dsimp only; omega) _).setCell (by dsimp only; omega) _
  clear b0 b1 b2 c1 c2 f1 f2 hb hp
  generalize ((w1.setCell ⟨w.heap.size + 1, 0, none⟩ (.int .i64 p)).setCell ⟨w.heap.size + 1 + 1, 0, none⟩ (.int .i64 x)) = w2 at *
  have d0 := cell_of_row _ _ 0 _ _ _ m0
  have g0 := frozen_of_row _ _ 0 _ _ m0
  have d1 := cell_of_row _ _ 1 _ _ _ m0
  have g1 := frozen_of_row _ _ 1 _ _ m0
  have d2 := cell_of_row _ _ 2 _ _ _ m0
  have g2 := frozen_of_row _ _ 2 _ _ m0
  have d3 := cell_of_row _ _ 3 _ _ _ m0
  have g3 := frozen_of_row _ _ 3 _ _ m0
  have d4 := cell_of_row _ _ 4 _ _ _ m0
  have g4 := frozen_of_row _ _ 4 _ _ m0
  have d5 := cell_of_row _ _ 5 _ _ _ m0
  have g5 := frozen_of_row _ _ 5 _ _ m0
  have d6 := cell_of_row _ _ 6 _ _ _ m0
  have g6 := frozen_of_row _ _ 6 _ _ m0
  have d7 := cell_of_row _ _ 7 _ _ _ m0
  have g7 := frozen_of_row _ _ 7 _ _ m0
  have d8 := cell_of_row _ _ 8 _ _ _ m0
  have g8 := frozen_of_row _ _ 8 _ _ m0
  have d10 := cell_of_row _ _ 0 _ _ _ m1
  have g10 := frozen_of_row _ _ 0 _ _ m1
  have d20 := cell_of_row _ _ 0 _ _ _ m2
  have g20 := frozen_of_row _ _ 0 _ _ m2
  simp at d0 d1 d2 d3 d4 d5 d6 d7 d8 d10 d20
  go_region
  go_wp2
  refine ⟨_, results_ccc rfl _ _ w.heap.size (w.heap.size + 1) (w.heap.size + 1 + 1) 27 3 28 reZ (0, 0) (.int .i64 p) (.int .i64 x) rfl ?_ rfl rfl ?_ rfl ?_, ?_, rfl⟩
  · rw [heap_drew, heap_setCell_other _ _ _ _ e2, heap_setCell_other _ _ _ _ e1]
    exact nine_set w2 _ _ _ _ _ _ _ _ _ _ _ _ _ _ _ _ _ _ _ m0
  · rw [heap_drew, heap_setCell_other _ _ _ _ e3]
    exact heap_setCell_same _ _ 0 _ _ _ ((nine_other w2 _ _ _ _ _ _ _ _ _ _ _ (Ne.symm e1)).trans m1)
  · rw [heap_drew]
    exact heap_setCell_same _ _ 0 _ _ _ ((heap_setCell_other _ _ _ _ (Ne.symm e3)).trans ((nine_other w2 _ _ _ _ _ _ _ _ _ _ _ (Ne.symm e2)).trans m2))
  · refine Below.drew (Below.setCell (Below.setCell (Below.setCell (Below.setCell (Below.setCell (Below.setCell (Below.setCell (Below.setCell (Below.setCell (Below.setCell (Below.setCell mb ?_ _) ?_ _) ?_ _) ?_ _) ?_ _) ?_ _) ?_ _) ?_ _) ?_ _) ?_ _) ?_ _)
    all_goals (dsimp only; omega)
end Go.Proofs.Ytcedjjlflahpcaa
