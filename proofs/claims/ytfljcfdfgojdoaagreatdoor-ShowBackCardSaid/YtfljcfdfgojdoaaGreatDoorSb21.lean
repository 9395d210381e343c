/-
  The contract of parse.File: it hands back what the plain function parseFile says, for a text of no more than 65536 bytes.
-/
import Derived.Test.YtfljcfdfgojdoaaGreatDoorSb20
namespace Go.Proofs.YtfljcfdfgojdoaaGreatDoor
open Go.RowKit Go.Lib

def closeF (T : List Tok) (x : RX (List It)) : Except (Int × Int) (List It) :=
  match x with
  | .error e => .error e
  | .ok (l, a) => if (tokAt T a).kind ≠ 0 then .error ((tokAt T a).pos, 4) else .ok l
def parseFile (s : ByteArray) : Except (Int × Int) (List It) :=
  match allT s with
  | .error (p, x) => .error (p, x)
  | .ok l => closeF (toksOf s l) (fileM (toksOf s l) 0 0)
theorem closeF_bad (T : List Tok) {x : RX (List It)} {p y : Int} (h : x = .error (p, y)) : closeF T x = .error (p, y) := by rw [h]; rfl
theorem closeF_end (T : List Tok) {x : RX (List It)} {r : List It} {a : Nat} (h : x = .ok (r, a)) (hk : ((tokAt T a).kind != 0) = true) : closeF T x = .error ((tokAt T a).pos, 4) := by
  rw [h]; unfold closeF; simp only; rw [if_pos (by simpa using hk)]
theorem closeF_ok (T : List Tok) {x : RX (List It)} {r : List It} {a : Nat} (h : x = .ok (r, a)) (hk : ((tokAt T a).kind != 0) = false) : closeF T x = .ok r := by
  rw [h]; unfold closeF; simp only; rw [if_neg (by simpa using hk)]
/-- what read[[]Item] and File hand back -/
def ReadsPost (s : ByteArray) (w : World) (x : Except (Int × Int) (List It)) (e : Ending) (w' : World) : Prop :=
  Below w.heap.size w w' ∧ match x with
  | .ok l => ∃ v, e = .returned (.tuple #[v, .int .i64 s.size, .int .i64 0]) ∧ Its w.heap.size w' l v
  | .error (p, y) => e = .returned (.tuple #[.slice none 0 0, .int .i64 p, .int .i64 y])
theorem agg38 (w : World) : (isAgg 22).run Tryz.prog w = .ok false w := by kernel_rfl
theorem loadVar38 (w : World) (a : Addr) (v : Value) (h : w.cell? a = some v) : (loadVar 22 a).run Tryz.prog w = .ok v w := by
  have := agg38 w
  simp [loadVar, go_sem, this, h]
theorem results_lll {fn : Func} {p q r : Tmp} (h : fn.results = #[.cell p 22, .cell q 3, .cell r 24]) (tmps : Array Value) (w : World) (g g1 g2 : Nat) (t t1 t2 : TypeId)
    (x0 x1 x2 : Value) (hp : tmps.getD p undef = .pointer (some ⟨g, 0, none⟩)) (hg : w.heap[g]? = some (.cells #[x0] t (0, 0)))
    (hq : tmps.getD q undef = .pointer (some ⟨g1, 0, none⟩)) (hg1 : w.heap[g1]? = some (.cells #[x1] t1 (0, 0)))
    (hr : tmps.getD r undef = .pointer (some ⟨g2, 0, none⟩)) (hg2 : w.heap[g2]? = some (.cells #[x2] t2 (0, 0))) :
    (results fn tmps).run Tryz.prog w = .ok (.tuple #[x0, x1, x2]) w := by
  have hp' : tmps[p]?.getD undef = .pointer (some ⟨g, 0, none⟩) := by simpa using hp
  have hq' : tmps[q]?.getD undef = .pointer (some ⟨g1, 0, none⟩) := by simpa using hq
  have hr' : tmps[r]?.getD undef = .pointer (some ⟨g2, 0, none⟩) := by simpa using hr
  have c0 : w.cell? ⟨g, 0, none⟩ = some x0 := cell_of_row _ _ 0 _ _ _ hg
  have c1 : w.cell? ⟨g1, 0, none⟩ = some x1 := cell_of_row _ _ 0 _ _ _ hg1
  have c2 : w.cell? ⟨g2, 0, none⟩ = some x2 := cell_of_row _ _ 0 _ _ _ hg2
  have l0 := loadVar38 _ _ _ c0
  have l1 := loadVar3 _ _ _ c1
  have l2 := loadVar28 _ _ _ c2
  simp [results, h, hp', hq', hr', asAddr, l0, l1, l2]

/-- what the deferred closure leaves -/
def CatchPost2 (g g1 g2 : Nat) (p x : Int) (w w' : World) : Prop :=
  Below g w w' ∧ w'.heap[g]? = some (.cells #[.slice none 0 0] 22 (0, 0)) ∧ w'.heap[g1]? = some (.cells #[.int .i64 p] 3 (0, 0)) ∧ w'.heap[g2]? = some (.cells #[.int .i64 x] 24 (0, 0))
theorem catch_idle2 (a b c : Value) (w : World) :
    CallsD Tryz.prog 120 #[a, b, c] .returning w fun e u' w' => e = .returned (.tuple #[]) ∧ u' = .returning ∧ w' = w := by
  refine callsD_of_wpS Tryz.func120 rfl fun c₀ cs hu => ?_
  apply wpS_seq
  apply wpS_region
  simp [wpOpsS, go_sem, recoverD, hu, Tryz.ntmps120, Exit.thenS]
  apply wpS_seq
  apply wpS_region
  simp [wpOpsS, go_sem, recoverD, hu, Exit.thenS]
  refine wpS_cond (t := false) (by simp [Act.eval, Array.replicate]) ?_
  simp only [Bool.false_eq_true, if_false]
  refine wpS_of_wp (wp_skip ?_)
  cases c₀
  simp_all [bodyPostS, results, Tryz.results120]
set_option maxRecDepth 100000 in
set_option maxHeartbeats 1000000 in
theorem catch_panicking2 (g g1 g2 : Nat) (v0 v1 v2 : Value) (p x : Int) (older : List PanicEntry) (w : World)
    (h0 : w.heap[g]? = some (.cells #[v0] 22 (0, 0))) (h1 : w.heap[g1]? = some (.cells #[v1] 3 (0, 0))) (h2 : w.heap[g2]? = some (.cells #[v2] 24 (0, 0))) (hg1 : g < g1) (hg2 : g1 < g2) :
    CallsD Tryz.prog 120 #[.pointer (some ⟨g, 0, none⟩), .pointer (some ⟨g1, 0, none⟩), .pointer (some ⟨g2, 0, none⟩)] (.panicking ({ v := .iface 143 (.agg #[.int .i64 p, .int .i64 x]), recovered := false } :: older)) w fun e u' w' =>
      e = .returned (.tuple #[]) ∧ u' = .panicking ({ v := .iface 143 (.agg #[.int .i64 p, .int .i64 x]), recovered := true } :: older) ∧ CatchPost2 g g1 g2 p x w w' := by
  refine callsD_of_wpS Tryz.func120 rfl fun c₀ cs hu => ?_
  apply wpS_seq
  apply wpS_region
  simp [wpOpsS, go_sem, recoverD, hu, Tryz.ntmps120, Exit.thenS]
  apply wpS_seq
  apply wpS_region
  simp [wpOpsS, go_sem, recoverD, Exit.thenS]
  refine wpS_cond (t := true) (by simp [Act.eval, Array.replicate]) ?_
  simp only [if_true]
  refine wpS_of_wp ?_
  have hta := assert67 p x
  clear hu
  rw [show (#[Value.pointer (some { block := g, off := 0 }), Value.pointer (some { block := g1, off := 0 }), Value.pointer (some { block := g2, off := 0 })] ++ ((((Array.replicate 20 undef).setIfInBounds 4 (Value.iface 143 (Value.agg #[Value.int IntKind.i64 p, Value.int IntKind.i64 x]))).setIfInBounds 0 (Value.iface 143 (Value.agg #[Value.int IntKind.i64 p, Value.int IntKind.i64 x]))).setIfInBounds 5 (Value.iface 143 (Value.agg #[Value.int IntKind.i64 p, Value.int IntKind.i64 x]))).setIfInBounds 6 (Value.bool true)) = #[.pointer (some ⟨g, 0, none⟩), .pointer (some ⟨g1, 0, none⟩), .pointer (some ⟨g2, 0, none⟩), .iface 143 (.agg #[.int .i64 p, .int .i64 x]), undef, undef, undef, .iface 143 (.agg #[.int .i64 p, .int .i64 x]), .iface 143 (.agg #[.int .i64 p, .int .i64 x]), .bool true, undef, undef, undef, undef, undef, undef, undef, undef, undef, undef, undef, undef, undef] from by kernel_rfl]
  go_wp2
  have l1 := (Array.getElem?_eq_some_iff.1 h1).1
  have l2 := (Array.getElem?_eq_some_iff.1 h2).1
  have hb : Below w.heap.size w (w.alloc (.cells #[.int .i64 p, .int .i64 x] 143)) := (Below.refl _ w).alloc (Nat.le_refl _) _
  have b0 := (hb.block g (by omega)).trans h0
  have b1 := (hb.block g1 (by omega)).trans h1
  have b2 := (hb.block g2 (by omega)).trans h2
  have b3 : (w.alloc (.cells #[.int .i64 p, .int .i64 x] 143)).heap[w.heap.size]? = some (.cells #[.int .i64 p, .int .i64 x] 143 (0, 0)) := heap_alloc_new _ _
  generalize hw2 : w.alloc (.cells #[.int .i64 p, .int .i64 x] 143) = w2 at *
  clear hw2
  have c30 := cell_of_row _ _ 0 _ _ _ b3
  have c31 := cell_of_row _ _ 1 _ _ _ b3
  have d00 := cell_of_row _ _ 0 _ _ _ b0
  have f00 := frozen_of_row _ _ 0 _ _ b0
  have d10 := cell_of_row _ _ 0 _ _ _ b1
  have d20 := cell_of_row _ _ 0 _ _ _ b2
  have f10 := frozen_of_row _ _ 0 _ _ b1
  have f20 := frozen_of_row _ _ 0 _ _ b2
  have e1 : g ≠ g1 := by omega
  have e2 : g ≠ g2 := by omega
  have e3 : g1 ≠ g2 := by omega
  have e4 : w.heap.size ≠ g := by omega
  have e5 : w.heap.size ≠ g1 := by omega
  have e6 : w.heap.size ≠ g2 := by omega
  simp at d00 d10 d20 c30 c31
  go_region
  refine ⟨rfl, _, rfl, .tuple #[], by simp [results, Tryz.results120, go_sem], rfl, rfl, ?_⟩
  refine ⟨?_, ?_, ?_, ?_⟩
  · refine Below.drew (Below.setCell (Below.setCell (Below.setCell (hb.mono (by omega)) ?_ _) ?_ _) ?_ _)
    all_goals (dsimp only; omega)
  · rw [heap_drew, heap_setCell_other _ _ _ _ e2, heap_setCell_other _ _ _ _ e1]
    exact heap_setCell_same _ g 0 #[v0] 22 _ b0
  · rw [heap_drew, heap_setCell_other _ _ _ _ e3]
    exact heap_setCell_same _ g1 0 #[v1] 3 _ ((heap_setCell_other _ _ _ _ (Ne.symm e1)).trans b1)
  · rw [heap_drew]
    exact heap_setCell_same _ g2 0 #[v2] 24 _ ((heap_setCell_other _ _ _ _ (Ne.symm e3)).trans ((heap_setCell_other _ _ _ _ (Ne.symm e2)).trans b2))

abbrev w4of (w : World) : World := ((w.alloc (.cells #[.slice none 0 0] 22)).alloc (.cells #[.int .i64 0] 3)).alloc (.cells #[.int .i64 0] 24)
theorem w4_b0 (w : World) : (w4of w).heap[w.heap.size]? = some (.cells #[.slice none 0 0] 22 (0, 0)) :=
  (alloc_old (by simp; omega)).trans ((alloc_old (by simp)).trans (heap_alloc_new _ _))
theorem w4_b1 (w : World) : (w4of w).heap[w.heap.size + 1]? = some (.cells #[.int .i64 0] 3 (0, 0)) := by
  have h := heap_alloc_new (w.alloc (.cells #[.slice none 0 0] 22)) (.cells #[.int .i64 0] 3)
  exact (alloc_old (by simp)).trans (by simpa using h)
theorem w4_b2 (w : World) : (w4of w).heap[w.heap.size + 2]? = some (.cells #[.int .i64 0] 24 (0, 0)) := by
  have h := heap_alloc_new ((w.alloc (.cells #[.slice none 0 0] 22)).alloc (.cells #[.int .i64 0] 3)) (.cells #[.int .i64 0] 24)
  simpa using h
theorem w4_below (w : World) : Below w.heap.size w (w4of w) := (((Below.refl _ w).alloc (Nat.le_refl _) _).alloc (by simp) _).alloc (by simp; omega) _

set_option maxRecDepth 100000 in
set_option maxHeartbeats 1000000 in
theorem readIt_lex (s : ByteArray) (w : World) (hs : s.size ≤ 65536) (f : Value) {p : Nat} {x : Int} (hx : allT s = .error (p, x)) :
    Calls Tryz.prog 59 #[.string s, f] w (ReadsPost s w (.error (p, x))) := by
  have HX := hid hx
  clear hx
  have hs2 : s.size ≤ 140737488351232 := by omega
  have e1 : w.heap.size ≠ w.heap.size + 1 := by omega
  have e2 : w.heap.size ≠ w.heap.size + 1 + 1 := by omega
  have e3 : w.heap.size + 1 ≠ w.heap.size + 1 + 1 := by omega
  go_enter_defers Tryz.func59, Tryz.ntmps59
  go_wp2_with (go_at_call 104; refine (all_any s _ hs2).mono ?_; rintro e w1 hp; obtain ⟨hb, hne, rfl⟩ := hp.bad HX.out; have b0 := (hb.block w.heap.size (by simp; omega)).trans (w4_b0 w); have b1 := (hb.block (w.heap.size + 1) (by simp)).trans (w4_b1 w); have b2 := (hb.block (w.heap.size + 1 + 1) (by simp)).trans (w4_b2 w); have c1 : w1.cell? ⟨w.heap.size + 1, 0, none⟩ = some (.int .i64 0) := cell_of_row _ _ 0 _ _ _ b1; have c2 : w1.cell? ⟨w.heap.size + 1 + 1, 0, none⟩ = some (.int .i64 0) := cell_of_row _ _ 0 _ _ _ b2; have f1 := frozen_of_row _ _ 0 _ _ b1; have f2 := frozen_of_row _ _ 0 _ _ b2)
  have m0 : ((w1.setCell ⟨w.heap.size + 1, 0, none⟩ (.int .i64 p)).setCell ⟨w.heap.size + 1 + 1, 0, none⟩ (.int .i64 x)).heap[w.heap.size]? = some (.cells #[.slice none 0 0] 22 (0, 0)) := (heap_setCell_other _ _ _ _ e2).trans ((heap_setCell_other _ _ _ _ e1).trans b0)
  have m1 : ((w1.setCell ⟨w.heap.size + 1, 0, none⟩ (.int .i64 p)).setCell ⟨w.heap.size + 1 + 1, 0, none⟩ (.int .i64 x)).heap[w.heap.size + 1]? = some (.cells #[.int .i64 p] 3 (0, 0)) := (heap_setCell_other _ _ _ _ e3).trans (heap_setCell_same _ _ 0 _ _ _ b1)
  have m2 : ((w1.setCell ⟨w.heap.size + 1, 0, none⟩ (.int .i64 p)).setCell ⟨w.heap.size + 1 + 1, 0, none⟩ (.int .i64 x)).heap[w.heap.size + 1 + 1]? = some (.cells #[.int .i64 x] 24 (0, 0)) := heap_setCell_same _ _ 0 _ _ _ ((heap_setCell_other _ _ _ _ (Ne.symm e3)).trans b2)
  have mb : Below w.heap.size w ((w1.setCell ⟨w.heap.size + 1, 0, none⟩ (.int .i64 p)).setCell ⟨w.heap.size + 1 + 1, 0, none⟩ (.int .i64 x)) := (((w4_below w).trans (hb.mono (by simp; omega))).setCell (by dsimp only; omega) _).setCell (by dsimp only; omega) _
  clear b0 b1 b2 c1 c2 f1 f2 hb hp
  generalize ((w1.setCell ⟨w.heap.size + 1, 0, none⟩ (.int .i64 p)).setCell ⟨w.heap.size + 1 + 1, 0, none⟩ (.int .i64 x)) = w2 at *
  have d0 := cell_of_row _ _ 0 _ _ _ m0
  have g0 := frozen_of_row _ _ 0 _ _ m0
  have d10 := cell_of_row _ _ 0 _ _ _ m1
  have g10 := frozen_of_row _ _ 0 _ _ m1
  have d20 := cell_of_row _ _ 0 _ _ _ m2
  have g20 := frozen_of_row _ _ 0 _ _ m2
  simp at d0 d10 d20
  go_region
  go_wp2
  refine ⟨_, results_lll rfl _ _ w.heap.size (w.heap.size + 1) (w.heap.size + 1 + 1) 22 3 24 (.slice none 0 0) (.int .i64 p) (.int .i64 x) rfl ?_ rfl ?_ rfl ?_, ?_, rfl⟩
  · rw [heap_drew, heap_setCell_other _ _ _ _ e2, heap_setCell_other _ _ _ _ e1]
    exact heap_setCell_same _ _ 0 _ _ _ m0
  · rw [heap_drew, heap_setCell_other _ _ _ _ e3]
    exact heap_setCell_same _ _ 0 _ _ _ ((heap_setCell_other _ _ _ _ (Ne.symm e1)).trans m1)
  · rw [heap_drew]
    exact heap_setCell_same _ _ 0 _ _ _ ((heap_setCell_other _ _ _ _ (Ne.symm e3)).trans ((heap_setCell_other _ _ _ _ (Ne.symm e2)).trans m2))
  · refine Below.drew (Below.setCell (Below.setCell (Below.setCell mb ?_ _) ?_ _) ?_ _)
    all_goals (dsimp only; omega)
end Go.Proofs.YtfljcfdfgojdoaaGreatDoor
