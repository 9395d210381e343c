/-
  The contracts of the deferred closure in read: where the rule panics, and where it returns.
  What read hands back, as a plain function, and its results out of memory.
  read where the lexer finds a fault: the contract, for a text of no more than 65536 bytes.
-/
import Derived.Test.YtfljcfdfgojdoaaGreatDoorAa07
import Derived.Recover
import Derived.StillTailTactics
namespace Go.Proofs.YtfljcfdfgojdoaaGreatDoor
open Go.RowKit Go.Lib

/-- what the deferred closure leaves -/
def CatchPost (g g1 g2 : Nat) (p x : Int) (w w' : World) : Prop :=
  Below g w w' ∧ w'.heap[g]? = some (.cells reZ 33 (0, 0)) ∧ w'.heap[g1]? = some (.cells #[.int .i64 p] 3 (0, 0)) ∧ w'.heap[g2]? = some (.cells #[.int .i64 x] 24 (0, 0))

theorem catch_idle (a b c : Value) (w : World) :
    CallsD Tryz.prog 105 #[a, b, c] .returning w fun e u' w' => e = .returned (.tuple #[]) ∧ u' = .returning ∧ w' = w := by
  refine callsD_of_wpS Tryz.func105 rfl fun c₀ cs hu => ?_
  apply wpS_seq
  apply wpS_region
  simp [wpOpsS, go_sem, recoverD, hu, Tryz.ntmps105, Exit.thenS]
  apply wpS_seq
  apply wpS_region
  simp [wpOpsS, go_sem, recoverD, hu, Exit.thenS]
  refine wpS_cond (t := false) (by simp [Act.eval, Array.replicate]) ?_
  simp only [Bool.false_eq_true, if_false]
  refine wpS_of_wp (wp_skip ?_)
  cases c₀
  simp_all [bodyPostS, results, Tryz.results105]

theorem heap_drew (w : World) : w.drew.heap = w.heap := rfl
theorem nine_set (w : World) (g : Nat) (x0 x1 x2 x3 x4 x5 x6 x7 x8 y0 y1 y2 y3 y4 y5 y6 y7 y8 : Value) (h : w.heap[g]? = some (.cells #[x0, x1, x2, x3, x4, x5, x6, x7, x8] 33 (0, 0))) :
    (((((((((w.setCell ⟨g, 0, none⟩ y0).setCell ⟨g, 1, none⟩ y1).setCell ⟨g, 2, none⟩ y2).setCell ⟨g, 3, none⟩ y3).setCell ⟨g, 4, none⟩ y4).setCell ⟨g, 5, none⟩ y5).setCell ⟨g, 6, none⟩ y6).setCell ⟨g, 7, none⟩ y7).setCell ⟨g, 8, none⟩ y8).heap[g]? = some (.cells #[y0, y1, y2, y3, y4, y5, y6, y7, y8] 33 (0, 0)) := by
  have h0 : (w.setCell ⟨g, 0, none⟩ y0).heap[g]? = some (.cells #[y0, x1, x2, x3, x4, x5, x6, x7, x8] 33 (0, 0)) := heap_setCell_same _ g 0 _ 33 y0 h
  have h1 : ((w.setCell ⟨g, 0, none⟩ y0).setCell ⟨g, 1, none⟩ y1).heap[g]? = some (.cells #[y0, y1, x2, x3, x4, x5, x6, x7, x8] 33 (0, 0)) := heap_setCell_same _ g 1 _ 33 y1 h0
  have h2 : (((w.setCell ⟨g, 0, none⟩ y0).setCell ⟨g, 1, none⟩ y1).setCell ⟨g, 2, none⟩ y2).heap[g]? = some (.cells #[y0, y1, y2, x3, x4, x5, x6, x7, x8] 33 (0, 0)) := heap_setCell_same _ g 2 _ 33 y2 h1
  have h3 : ((((w.setCell ⟨g, 0, none⟩ y0).setCell ⟨g, 1, none⟩ y1).setCell ⟨g, 2, none⟩ y2).setCell ⟨g, 3, none⟩ y3).heap[g]? = some (.cells #[y0, y1, y2, y3, x4, x5, x6, x7, x8] 33 (0, 0)) := heap_setCell_same _ g 3 _ 33 y3 h2
  have h4 : (((((w.setCell ⟨g, 0, none⟩ y0).setCell ⟨g, 1, none⟩ y1).setCell ⟨g, 2, none⟩ y2).setCell ⟨g, 3, none⟩ y3).setCell ⟨g, 4, none⟩ y4).heap[g]? = some (.cells #[y0, y1, y2, y3, y4, x5, x6, x7, x8] 33 (0, 0)) := heap_setCell_same _ g 4 _ 33 y4 h3
  have h5 : ((((((w.setCell ⟨g, 0, none⟩ y0).setCell ⟨g, 1, none⟩ y1).setCell ⟨g, 2, none⟩ y2).setCell ⟨g, 3, none⟩ y3).setCell ⟨g, 4, none⟩ y4).setCell ⟨g, 5, none⟩ y5).heap[g]? = some (.cells #[y0, y1, y2, y3, y4, y5, x6, x7, x8] 33 (0, 0)) := heap_setCell_same _ g 5 _ 33 y5 h4
  have h6 : (((((((w.setCell ⟨g, 0, none⟩ y0).setCell ⟨g, 1, none⟩ y1).setCell ⟨g, 2, none⟩ y2).setCell ⟨g, 3, none⟩ y3).setCell ⟨g, 4, none⟩ y4).setCell ⟨g, 5, none⟩ y5).setCell ⟨g, 6, none⟩ y6).heap[g]? = some (.cells #[y0, y1, y2, y3, y4, y5, y6, x7, x8] 33 (0, 0)) := heap_setCell_same _ g 6 _ 33 y6 h5
  have h7 : ((((((((w.setCell ⟨g, 0, none⟩ y0).setCell ⟨g, 1, none⟩ y1).setCell ⟨g, 2, none⟩ y2).setCell ⟨g, 3, none⟩ y3).setCell ⟨g, 4, none⟩ y4).setCell ⟨g, 5, none⟩ y5).setCell ⟨g, 6, none⟩ y6).setCell ⟨g, 7, none⟩ y7).heap[g]? = some (.cells #[y0, y1, y2, y3, y4, y5, y6, y7, x8] 33 (0, 0)) := heap_setCell_same _ g 7 _ 33 y7 h6
  have h8 : (((((((((w.setCell ⟨g, 0, none⟩ y0).setCell ⟨g, 1, none⟩ y1).setCell ⟨g, 2, none⟩ y2).setCell ⟨g, 3, none⟩ y3).setCell ⟨g, 4, none⟩ y4).setCell ⟨g, 5, none⟩ y5).setCell ⟨g, 6, none⟩ y6).setCell ⟨g, 7, none⟩ y7).setCell ⟨g, 8, none⟩ y8).heap[g]? = some (.cells #[y0, y1, y2, y3, y4, y5, y6, y7, y8] 33 (0, 0)) := heap_setCell_same _ g 8 _ 33 y8 h7
  exact h8
theorem nine_other (w : World) (g k : Nat) (y0 y1 y2 y3 y4 y5 y6 y7 y8 : Value) (h : k ≠ g) : (((((((((w.setCell ⟨g, 0, none⟩ y0).setCell ⟨g, 1, none⟩ y1).setCell ⟨g, 2, none⟩ y2).setCell ⟨g, 3, none⟩ y3).setCell ⟨g, 4, none⟩ y4).setCell ⟨g, 5, none⟩ y5).setCell ⟨g, 6, none⟩ y6).setCell ⟨g, 7, none⟩ y7).setCell ⟨g, 8, none⟩ y8).heap[k]? = w.heap[k]? := by
  iterate 9 rw [heap_setCell_other _ ⟨g, _, none⟩ _ _ h]
theorem assert67 (p x : Int) (w : World) : (Instr.typeAssert (.iface 143 (.agg #[.int .i64 p, .int .i64 x])) 20 143 true).run Tryz.prog w = .ok (.tuple #[.agg #[.int .i64 p, .int .i64 x], .bool true]) w := by kernel_rfl
set_option maxRecDepth 100000 in
set_option maxHeartbeats 1000000 in
theorem catch_panicking (g g1 g2 : Nat) (x0 x1 x2 x3 x4 x5 x6 x7 x8 v1 v2 : Value) (p x : Int) (older : List PanicEntry) (w : World)
    (h0 : w.heap[g]? = some (.cells #[x0, x1, x2, x3, x4, x5, x6, x7, x8] 33 (0, 0))) (h1 : w.heap[g1]? = some (.cells #[v1] 3 (0, 0))) (h2 : w.heap[g2]? = some (.cells #[v2] 24 (0, 0))) (hg1 : g < g1) (hg2 : g1 < g2) :
    CallsD Tryz.prog 105 #[.pointer (some ⟨g, 0, none⟩), .pointer (some ⟨g1, 0, none⟩), .pointer (some ⟨g2, 0, none⟩)] (.panicking ({ v := .iface 143 (.agg #[.int .i64 p, .int .i64 x]), recovered := false } :: older)) w fun e u' w' =>
      e = .returned (.tuple #[]) ∧ u' = .panicking ({ v := .iface 143 (.agg #[.int .i64 p, .int .i64 x]), recovered := true } :: older) ∧ CatchPost g g1 g2 p x w w' := by
  refine callsD_of_wpS Tryz.func105 rfl fun c₀ cs hu => ?_
  apply wpS_seq
  apply wpS_region
  simp [wpOpsS, go_sem, recoverD, hu, Tryz.ntmps105, Exit.thenS]
  apply wpS_seq
  apply wpS_region
  simp [wpOpsS, go_sem, recoverD, Exit.thenS]
  refine wpS_cond (t := true) (by simp [Act.eval, Array.replicate]) ?_
  simp only [if_true]
  refine wpS_of_wp ?_
  have hta := assert67 p x
  clear hu
  rw [show (#[Value.pointer (some { block := g, off := 0 }), Value.pointer (some { block := g1, off := 0 }), Value.pointer (some { block := g2, off := 0 })] ++ ((((Array.replicate 20 undef).setIfInBounds 4 (Value.iface 143 (Value.agg #[Value.int IntKind.i64 p, Value.int IntKind.i64 x]))).setIfInBounds 0 (Value.iface 143 (Value.agg #[Value.int IntKind.i64 p, Value.int IntKind.i64 x]))).setIfInBounds 5 (Value.iface 143 (Value.agg #[Value.int IntKind.i64 p, Value.int IntKind.i64 x]))).setIfInBounds 6 (Value.bool true)) = #[.pointer (some ⟨g, 0, none⟩), .pointer (some ⟨g1, 0, none⟩), .pointer (some ⟨g2, 0, none⟩), .iface 143 (.agg #[.int .i64 p, .int .i64 x]), undef, undef, undef, .iface 143 (.agg #[.int .i64 p, .int .i64 x]), .iface 143 (.agg #[.int .i64 p, .int .i64 x]), .bool true, undef, undef, undef, undef, undef, undef, undef, undef, undef, undef, undef, undef, undef] from by kernel_rfl]
  go_wp2
  have l1 := (Array.getElem?_eq_some_iff.1 h1).1
  have l2 := (Array.getElem?_eq_some_iff.1 h2).1
  have hb : Below w.heap.size w ((w.alloc (.cells #[.int .i64 p, .int .i64 x] 143)).alloc (.cells reZ 33)) := ((Below.refl _ w).alloc (Nat.le_refl _) _).alloc (by simp) _
  have b0 := (hb.block g (by omega)).trans h0
  have b1 := (hb.block g1 (by omega)).trans h1
  have b2 := (hb.block g2 (by omega)).trans h2
  have b3 : ((w.alloc (.cells #[.int .i64 p, .int .i64 x] 143)).alloc (.cells reZ 33)).heap[w.heap.size]? = some (.cells #[.int .i64 p, .int .i64 x] 143 (0, 0)) := (alloc_old (by simp)).trans (heap_alloc_new _ _)
  have b4 : ((w.alloc (.cells #[.int .i64 p, .int .i64 x] 143)).alloc (.cells reZ 33)).heap[w.heap.size + 1]? = some (.cells reZ 33 (0, 0)) := by
    have := heap_alloc_new (w.alloc (.cells #[.int .i64 p, .int .i64 x] 143)) (.cells reZ 33)
    simpa using this
  generalize hw2 : ((w.alloc (.cells #[.int .i64 p, .int .i64 x] 143)).alloc (.cells reZ 33)) = w2 at *
  clear hw2
  have c30 := cell_of_row _ _ 0 _ _ _ b3
  have c31 := cell_of_row _ _ 1 _ _ _ b3
  have c40 := cell_of_row _ _ 0 _ _ _ b4
  have c41 := cell_of_row _ _ 1 _ _ _ b4
  have c42 := cell_of_row _ _ 2 _ _ _ b4
  have c43 := cell_of_row _ _ 3 _ _ _ b4
  have c44 := cell_of_row _ _ 4 _ _ _ b4
  have c45 := cell_of_row _ _ 5 _ _ _ b4
  have c46 := cell_of_row _ _ 6 _ _ _ b4
  have c47 := cell_of_row _ _ 7 _ _ _ b4
  have c48 := cell_of_row _ _ 8 _ _ _ b4
  have d00 := cell_of_row _ _ 0 _ _ _ b0
  have d01 := cell_of_row _ _ 1 _ _ _ b0
  have d02 := cell_of_row _ _ 2 _ _ _ b0
  have d03 := cell_of_row _ _ 3 _ _ _ b0
  have d04 := cell_of_row _ _ 4 _ _ _ b0
  have d05 := cell_of_row _ _ 5 _ _ _ b0
  have d06 := cell_of_row _ _ 6 _ _ _ b0
  have d07 := cell_of_row _ _ 7 _ _ _ b0
  have d08 := cell_of_row _ _ 8 _ _ _ b0
  have f00 := frozen_of_row _ _ 0 _ _ b0
  have f01 := frozen_of_row _ _ 1 _ _ b0
  have f02 := frozen_of_row _ _ 2 _ _ b0
  have f03 := frozen_of_row _ _ 3 _ _ b0
  have f04 := frozen_of_row _ _ 4 _ _ b0
  have f05 := frozen_of_row _ _ 5 _ _ b0
  have f06 := frozen_of_row _ _ 6 _ _ b0
  have f07 := frozen_of_row _ _ 7 _ _ b0
  have f08 := frozen_of_row _ _ 8 _ _ b0
  have d10 := cell_of_row _ _ 0 _ _ _ b1
  have d20 := cell_of_row _ _ 0 _ _ _ b2
  have f10 := frozen_of_row _ _ 0 _ _ b1
  have f20 := frozen_of_row _ _ 0 _ _ b2
  have e1 : g ≠ g1 := by omega
  have e2 : g ≠ g2 := by omega
  have e3 : g1 ≠ g2 := by omega
  have e4 : w.heap.size ≠ g := by omega
  have e5 : w.heap.size ≠ g1 := by omega
  have e6 : w.heap.size ≠ g2 := by omega
  have e7 : w.heap.size + 1 ≠ g := by omega
  have e8 : w.heap.size + 1 ≠ g1 := by omega
  have e9 : w.heap.size + 1 ≠ g2 := by omega
  simp at d00 d01 d02 d03 d04 d05 d06 d07 d08 d10 d20 c30 c31 c40 c41 c42 c43 c44 c45 c46 c47 c48
  go_region
  refine ⟨rfl, _, rfl, .tuple #[], by simp [results, Tryz.results105, go_sem], rfl, rfl, ?_⟩
  refine ⟨?_, ?_, ?_, ?_⟩
  · refine Below.drew (Below.setCell (Below.setCell (Below.setCell (Below.setCell (Below.setCell (Below.setCell (Below.setCell (Below.setCell (Below.setCell (Below.setCell (Below.setCell (hb.mono (by omega)) ?_ _) ?_ _) ?_ _) ?_ _) ?_ _) ?_ _) ?_ _) ?_ _) ?_ _) ?_ _) ?_ _)
    all_goals (dsimp only; omega)
  · rw [heap_drew, heap_setCell_other _ _ _ _ e2, heap_setCell_other _ _ _ _ e1]
    exact nine_set w2 g _ _ _ _ _ _ _ _ _ _ _ _ _ _ _ _ _ _ b0
  · rw [heap_drew, heap_setCell_other _ _ _ _ e3]
    exact heap_setCell_same _ g1 0 #[v1] 3 _ ((nine_other w2 g g1 _ _ _ _ _ _ _ _ _ (Ne.symm e1)).trans b1)
  · rw [heap_drew]
    exact heap_setCell_same _ g2 0 #[v2] 24 _ ((heap_setCell_other _ _ _ _ (Ne.symm e3)).trans ((nine_other w2 g g2 _ _ _ _ _ _ _ _ _ (Ne.symm e2)).trans b2))
end Go.Proofs.YtfljcfdfgojdoaaGreatDoor

namespace Go.Proofs.YtfljcfdfgojdoaaGreatDoor
open Go.RowKit Go.Lib

/-- the tokens that a parser takes: those of the text, and that of its end -/
def endTok (s : ByteArray) : Tok := ⟨0, [], Se.none, 0, s.size⟩
def toksOf (s : ByteArray) (l : List Tok) : List Tok := l ++ [endTok s]
/-- behind a rule: all must have been taken -/
def closeM (T : List Tok) (x : R) : Except (Int × Int) Re :=
  match x with
  | .error e => .error e
  | .ok (r, a) => if (tokAt T a).kind ≠ 0 then .error ((tokAt T a).pos, 4) else .ok r
def parseRe (s : ByteArray) : Except (Int × Int) Re :=
  match allT s with
  | .error (p, x) => .error (p, x)
  | .ok l => closeM (toksOf s l) (altM notNone (toksOf s l) 33 0 0)
theorem AllPost.bad {s : ByteArray} {w w' : World} {e : Ending} (h : AllPost s w e w') {p : Nat} {x : Int} (hx : allT s = .error (p, x)) :
    Below w.heap.size w w' ∧ (x != 0) = true ∧ e = .returned (.tuple #[.slice none 0 0, .int .i64 (p : Nat), .int .i64 x]) := by
  rcases h with ⟨hb, ⟨p', x', h1, h2, h3⟩ | ⟨l, v, h1, _⟩⟩
  · rw [hx] at h1
    cases h1
    exact ⟨hb, h2, h3⟩
  · rw [hx] at h1; cases h1
theorem AllPost.good {s : ByteArray} {w w' : World} {e : Ending} (h : AllPost s w e w') {l : List Tok} (hx : allT s = .ok l) :
    Below w.heap.size w w' ∧ l.length ≤ s.size ∧ ∃ v, w'.ownsRow w.heap.size 139 8 v l.length (tokCells l) ∧ e = .returned (.tuple #[v, .int .i64 s.size, .int .i64 0]) := by
  rcases h with ⟨hb, ⟨p', x', h1, h2, h3⟩ | ⟨l', v, h1, h2, h3, h4⟩⟩
  · rw [hx] at h1; cases h1
  · rw [hx] at h1
    cases h1
    exact ⟨hb, h2, v, h3, h4⟩
/-- what read[Re] and Re hand back -/
def ReadPost (s : ByteArray) (w : World) (x : Except (Int × Int) Re) (e : Ending) (w' : World) : Prop :=
  Below w.heap.size w w' ∧ match x with
  | .ok r => ∃ cs, e = .returned (.tuple #[.agg cs, .int .i64 s.size, .int .i64 0]) ∧ ReAt w.heap.size w' r cs
  | .error (p, y) => e = .returned (.tuple #[.agg reZ, .int .i64 p, .int .i64 y])
theorem agg3 (w : World) : (isAgg 3).run Tryz.prog w = .ok false w := by kernel_rfl
theorem agg28 (w : World) : (isAgg 24).run Tryz.prog w = .ok false w := by kernel_rfl
theorem loadVar3 (w : World) (a : Addr) (v : Value) (h : w.cell? a = some v) : (loadVar 3 a).run Tryz.prog w = .ok v w := by
  have := agg3 w
  simp [loadVar, go_sem, this, h]
theorem loadVar28 (w : World) (a : Addr) (v : Value) (h : w.cell? a = some v) : (loadVar 24 a).run Tryz.prog w = .ok v w := by
  have := agg28 w
  simp [loadVar, go_sem, this, h]
theorem results_ccc {fn : Func} {p q r : Tmp} (h : fn.results = #[.cell p 33, .cell q 3, .cell r 24]) (tmps : Array Value) (w : World) (g g1 g2 : Nat) (t t1 t2 : TypeId) (cs : Array Value) (fr : Nat × Nat)
    (x1 x2 : Value) (hp : tmps.getD p undef = .pointer (some ⟨g, 0, none⟩)) (hg : w.heap[g]? = some (.cells cs t fr))
    (hn : cs.size = 9)
    (hq : tmps.getD q undef = .pointer (some ⟨g1, 0, none⟩)) (hg1 : w.heap[g1]? = some (.cells #[x1] t1 (0, 0)))
    (hr : tmps.getD r undef = .pointer (some ⟨g2, 0, none⟩)) (hg2 : w.heap[g2]? = some (.cells #[x2] t2 (0, 0))) :
    (results fn tmps).run Tryz.prog w = .ok (.tuple #[.agg cs, x1, x2]) w := by
  have hp' : tmps[p]?.getD undef = .pointer (some ⟨g, 0, none⟩) := by simpa using hp
  have hq' : tmps[q]?.getD undef = .pointer (some ⟨g1, 0, none⟩) := by simpa using hq
  have hr' : tmps[r]?.getD undef = .pointer (some ⟨g2, 0, none⟩) := by simpa using hr
  have c1 : w.cell? ⟨g1, 0, none⟩ = some x1 := cell_of_row _ _ 0 _ _ _ hg1
  have c2 : w.cell? ⟨g2, 0, none⟩ = some x2 := cell_of_row _ _ 0 _ _ _ hg2
  have l1 := loadVar3 _ _ _ c1
  have l2 := loadVar28 _ _ _ c2
  simp [results, h, hp', hq', hr', asAddr, run_loadVar_row w g t 33 cs fr _ hg Tryz.underlying33 rfl (by rw [hn]; exact info27), l1, l2]

abbrev w3of (w : World) : World := ((w.alloc (.cells reZ 33)).alloc (.cells #[.int .i64 0] 3)).alloc (.cells #[.int .i64 0] 24)
theorem w3_b0 (w : World) : (w3of w).heap[w.heap.size]? = some (.cells reZ 33 (0, 0)) :=
  (alloc_old (by simp; omega)).trans ((alloc_old (by simp)).trans (heap_alloc_new _ _))
theorem w3_b1 (w : World) : (w3of w).heap[w.heap.size + 1]? = some (.cells #[.int .i64 0] 3 (0, 0)) := by
  have h := heap_alloc_new (w.alloc (.cells reZ 33)) (.cells #[.int .i64 0] 3)
  exact (alloc_old (by simp)).trans (by simpa using h)
theorem w3_b2 (w : World) : (w3of w).heap[w.heap.size + 2]? = some (.cells #[.int .i64 0] 24 (0, 0)) := by
  have h := heap_alloc_new ((w.alloc (.cells reZ 33)).alloc (.cells #[.int .i64 0] 3)) (.cells #[.int .i64 0] 24)
  simpa using h
theorem w3_size (w : World) : (w3of w).heap.size = w.heap.size + 3 := by simp
theorem w3_below (w : World) : Below w.heap.size w (w3of w) := (((Below.refl _ w).alloc (Nat.le_refl _) _).alloc (by simp) _).alloc (by simp; omega) _
end Go.Proofs.YtfljcfdfgojdoaaGreatDoor

namespace Go.Proofs.YtfljcfdfgojdoaaGreatDoor
open Go.RowKit Go.Lib

set_option maxRecDepth 100000 in
set_option maxHeartbeats 1000000 in
theorem readRe_lex (s : ByteArray) (w : World) (hs : s.size ≤ 65536) (f : Value) {p : Nat} {x : Int} (hx : allT s = .error (p, x)) :
    Calls Tryz.prog 51 #[.string s, f] w (ReadPost s w (.error (p, x))) := by
  have HX := hid hx
  clear hx
  have hs2 : s.size ≤ 140737488351232 := by omega
  have e1 : w.heap.size ≠ w.heap.size + 1 := by omega
  have e2 : w.heap.size ≠ w.heap.size + 1 + 1 := by omega
  have e3 : w.heap.size + 1 ≠ w.heap.size + 1 + 1 := by omega
  go_enter_defers Tryz.func51, Tryz.ntmps51
  go_wp2_with (go_at_call 104; refine (all_any s _ hs2).mono ?_; rintro e w1 hp; obtain ⟨hb, hne, rfl⟩ := hp.bad HX.out; have b0 := (hb.block w.heap.size (by simp; omega)).trans (w3_b0 w); have b1 := (hb.block (w.heap.size + 1) (by simp)).trans (w3_b1 w); have b2 := (hb.block (w.heap.size + 1 + 1) (by simp)).trans (w3_b2 w); have c1 : w1.cell? ⟨w.heap.size + 1, 0, none⟩ = some (.int .i64 0) := cell_of_row _ _ 0 _ _ _ b1; have c2 : w1.cell? ⟨w.heap.size + 1 + 1, 0, none⟩ = some (.int .i64 0) := cell_of_row _ _ 0 _ _ _ b2; have f1 := frozen_of_row _ _ 0 _ _ b1; have f2 := frozen_of_row _ _ 0 _ _ b2)
  have m0 : ((w1.setCell ⟨w.heap.size + 1, 0, none⟩ (.int .i64 p)).setCell ⟨w.heap.size + 1 + 1, 0, none⟩ (.int .i64 x)).heap[w.heap.size]? = some (.cells reZ 33 (0, 0)) := (heap_setCell_other _ _ _ _ e2).trans ((heap_setCell_other _ _ _ _ e1).trans b0)
  have m1 : ((w1.setCell ⟨w.heap.size + 1, 0, none⟩ (.int .i64 p)).setCell ⟨w.heap.size + 1 + 1, 0, none⟩ (.int .i64 x)).heap[w.heap.size + 1]? = some (.cells #[.int .i64 p] 3 (0, 0)) := (heap_setCell_other _ _ _ _ e3).trans (heap_setCell_same _ _ 0 _ _ _ b1)
  have m2 : ((w1.setCell ⟨w.heap.size + 1, 0, none⟩ (.int .i64 p)).setCell ⟨w.heap.size + 1 + 1, 0, none⟩ (.int .i64 x)).heap[w.heap.size + 1 + 1]? = some (.cells #[.int .i64 x] 24 (0, 0)) := heap_setCell_same _ _ 0 _ _ _ ((heap_setCell_other _ _ _ _ (Ne.symm e3)).trans b2)
  have mb : Below w.heap.size w ((w1.setCell ⟨w.heap.size + 1, 0, none⟩ (.int .i64 p)).setCell ⟨w.heap.size + 1 + 1, 0, none⟩ (.int .i64 x)) := (((w3_below w).trans (hb.mono (by simp; omega))).setCell (by dsimp only; omega) _).setCell (by dsimp only; omega) _
  clear b0 b1 b2 c1 c2 f1 f2 hb hp
  generalize ((w1.setCell ⟨w.heap.size + 1, 0, none⟩ (.int .i64 p)).setCell ⟨w.heap.size + 1 + 1, 0, none⟩ (.int .i64 x)) = w2 at *
  have d0 := cell_of_row _ _ 0 _ _ _ m0
  have g0 := frozen_of_row _ _ 0 _ _ m0
  have d1 := cell_of_row _ _ 1 _ _ _ m0
  have g1 := frozen_of_row _ _ 1 _ _ m0
  have d2 := cell_of_row _ _ 2 _ _ _ m0
  have g2 := frozen_of_row _ _ 2 _ _ m0
  have d3 := cell_of_row _ _ 3 _ _ _ m0
  have g3 := frozen_of_row _ _ 3 _ _ m0
  have d4 := cell_of_row _ _ 4 _ _ _ m0
  have g4 := frozen_of_row _ _ 4 _ _ m0
  have d5 := cell_of_row _ _ 5 _ _ _ m0
  have g5 := frozen_of_row _ _ 5 _ _ m0
  have d6 := cell_of_row _ _ 6 _ _ _ m0
  have g6 := frozen_of_row _ _ 6 _ _ m0
  have d7 := cell_of_row _ _ 7 _ _ _ m0
  have g7 := frozen_of_row _ _ 7 _ _ m0
  have d8 := cell_of_row _ _ 8 _ _ _ m0
  have g8 := frozen_of_row _ _ 8 _ _ m0
  have d10 := cell_of_row _ _ 0 _ _ _ m1
  have g10 := frozen_of_row _ _ 0 _ _ m1
  have d20 := cell_of_row _ _ 0 _ _ _ m2
  have g20 := frozen_of_row _ _ 0 _ _ m2
  simp at d0 d1 d2 d3 d4 d5 d6 d7 d8 d10 d20
  go_region
  go_wp2
  refine ⟨_, results_ccc rfl _ _ w.heap.size (w.heap.size + 1) (w.heap.size + 1 + 1) 33 3 24 reZ (0, 0) (.int .i64 p) (.int .i64 x) rfl ?_ rfl rfl ?_ rfl ?_, ?_, rfl⟩
  · rw [heap_drew, heap_setCell_other _ _ _ _ e2, heap_setCell_other _ _ _ _ e1]
    exact nine_set w2 _ _ _ _ _ _ _ _ _ _ _ _ _ _ _ _ _ _ _ m0
  · rw [heap_drew, heap_setCell_other _ _ _ _ e3]
    exact heap_setCell_same _ _ 0 _ _ _ ((nine_other w2 _ _ _ _ _ _ _ _ _ _ _ (Ne.symm e1)).trans m1)
  · rw [heap_drew]
    exact heap_setCell_same _ _ 0 _ _ _ ((heap_setCell_other _ _ _ _ (Ne.symm e3)).trans ((nine_other w2 _ _ _ _ _ _ _ _ _ _ _ (Ne.symm e2)).trans m2))
  · refine Below.drew (Below.setCell (Below.setCell (Below.setCell (Below.setCell (Below.setCell (Below.setCell (Below.setCell (Below.setCell (Below.setCell (Below.setCell (Below.setCell mb ?_ _) ?_ _) ?_ _) ?_ _) ?_ _) ?_ _) ?_ _) ?_ _) ?_ _) ?_ _) ?_ _)
    all_goals (dsimp only; omega)
end Go.Proofs.YtfljcfdfgojdoaaGreatDoor
