/-
  The contract of parse.File: it hands back what the plain function parseFile says, for a text of no more than 65536 bytes.
  The contract of parse.File: it hands back what the plain function parseFile says, for a text of no more than 65536 bytes.
-/
import Derived.Test.YtfljcfdfgojdoaaGreatDoorAa16
namespace Go.Proofs.YtfljcfdfgojdoaaGreatDoor
open Go.RowKit Go.Lib

def closeF (T : List Tok) (x : RX (List It)) : Except (Int × Int) (List It) :=
  match x with
  | .error e => .error e
  | .ok (l, a) => if (tokAt T a).kind ≠ 0 then .error ((tokAt T a).pos, 4) else .ok l
def parseFile (s : ByteArray) : Except (Int × Int) (List It) :=
  match allT s with
  | .error (p, x) => .error (p, x)
  | .ok l => closeF (toksOf s l) (fileM (toksOf s l) 0 0)
theorem closeF_bad (T : List Tok) {x : RX (List It)} {p y : Int} (h : x = .error (p, y)) : closeF T x = .error (p, y) := by rw [h]; rfl
theorem closeF_end (T : List Tok) {x : RX (List It)} {r : List It} {a : Nat} (h : x = .ok (r, a)) (hk : ((tokAt T a).kind != 0) = true) : closeF T x = .error ((tokAt T a).pos, 4) := by
  rw [h]; unfold closeF; simp only; rw [if_pos (by simpa using hk)]
theorem closeF_ok (T : List Tok) {x : RX (List It)} {r : List It} {a : Nat} (h : x = .ok (r, a)) (hk : ((tokAt T a).kind != 0) = false) : closeF T x = .ok r := by
  rw [h]; unfold closeF; simp only; rw [if_neg (by simpa using hk)]
/-- what read[[]Item] and File hand back -/
def ReadsPost (s : ByteArray) (w : World) (x : Except (Int × Int) (List It)) (e : Ending) (w' : World) : Prop :=
  Below w.heap.size w w' ∧ match x with
  | .ok l => ∃ v, e = .returned (.tuple #[v, .int .i64 s.size, .int .i64 0]) ∧ Its w.heap.size w' l v
  | .error (p, y) => e = .returned (.tuple #[.slice none 0 0, .int .i64 p, .int .i64 y])
theorem agg38 (w : World) : (isAgg 22).run Tryz.prog w = .ok false w := by kernel_rfl
theorem loadVar38 (w : World) (a : Addr) (v : Value) (h : w.cell? a = some v) : (loadVar 22 a).run Tryz.prog w = .ok v w := by
  have := agg38 w
  simp [loadVar, go_sem, this, h]
theorem results_lll {fn : Func} {p q r : Tmp} (h : fn.results = #[.cell p 22, .cell q 3, .cell r 24]) (tmps : Array Value) (w : World) (g g1 g2 : Nat) (t t1 t2 : TypeId)
    (x0 x1 x2 : Value) (hp : tmps.getD p undef = .pointer (some ⟨g, 0, none⟩)) (hg : w.heap[g]? = some (.cells #[x0] t (0, 0)))
    (hq : tmps.getD q undef = .pointer (some ⟨g1, 0, none⟩)) (hg1 : w.heap[g1]? = some (.cells #[x1] t1 (0, 0)))
    (hr : tmps.getD r undef = .pointer (some ⟨g2, 0, none⟩)) (hg2 : w.heap[g2]? = some (.cells #[x2] t2 (0, 0))) :
    (results fn tmps).run Tryz.prog w = .ok (.tuple #[x0, x1, x2]) w := by
  have hp' : tmps[p]?.getD undef = .pointer (some ⟨g, 0, none⟩) := by simpa using hp
  have hq' : tmps[q]?.getD undef = .pointer (some ⟨g1, 0, none⟩) := by simpa using hq
  have hr' : tmps[r]?.getD undef = .pointer (some ⟨g2, 0, none⟩) := by simpa using hr
  have c0 : w.cell? ⟨g, 0, none⟩ = some x0 := cell_of_row _ _ 0 _ _ _ hg
  have c1 : w.cell? ⟨g1, 0, none⟩ = some x1 := cell_of_row _ _ 0 _ _ _ hg1
  have c2 : w.cell? ⟨g2, 0, none⟩ = some x2 := cell_of_row _ _ 0 _ _ _ hg2
  have l0 := loadVar38 _ _ _ c0
  have l1 := loadVar3 _ _ _ c1
  have l2 := loadVar28 _ _ _ c2
  simp [results, h, hp', hq', hr', asAddr, l0, l1, l2]

/-- what the deferred closure leaves -/
def CatchPost2 (g g1 g2 : Nat) (p x : Int) (w w' : World) : Prop :=
  Below g w w' ∧ w'.heap[g]? = some (.cells #[.slice none 0 0] 22 (0, 0)) ∧ w'.heap[g1]? = some (.cells #[.int .i64 p] 3 (0, 0)) ∧ w'.heap[g2]? = some (.cells #[.int .i64 x] 24 (0, 0))
theorem catch_idle2 (a b c : Value) (w : World) :
    CallsD Tryz.prog 120 #[a, b, c] .returning w fun e u' w' => e = .returned (.tuple #[]) ∧ u' = .returning ∧ w' = w := by
  refine callsD_of_wpS Tryz.func120 rfl fun c₀ cs hu => ?_
  apply wpS_seq
  apply wpS_region
  simp [wpOpsS, go_sem, recoverD, hu, Tryz.ntmps120, Exit.thenS]
  apply wpS_seq
  apply wpS_region
  simp [wpOpsS, go_sem, recoverD, hu, Exit.thenS]
  refine wpS_cond (t := false) (by simp [Act.eval, Array.replicate]) ?_
  simp only [Bool.false_eq_true, if_false]
  refine wpS_of_wp (wp_skip ?_)
  cases c₀
  simp_all [bodyPostS, results, Tryz.results120]
set_option maxRecDepth 100000 in
set_option maxHeartbeats 1000000 in
theorem catch_panicking2 (g g1 g2 : Nat) (v0 v1 v2 : Value) (p x : Int) (older : List PanicEntry) (w : World)
    (h0 : w.heap[g]? = some (.cells #[v0] 22 (0, 0))) (h1 : w.heap[g1]? = some (.cells #[v1] 3 (0, 0))) (h2 : w.heap[g2]? = some (.cells #[v2] 24 (0, 0))) (hg1 : g < g1) (hg2 : g1 < g2) :
    CallsD Tryz.prog 120 #[.pointer (some ⟨g, 0, none⟩), .pointer (some ⟨g1, 0, none⟩), .pointer (some ⟨g2, 0, none⟩)] (.panicking ({ v := .iface 143 (.agg #[.int .i64 p, .int .i64 x]), recovered := false } :: older)) w fun e u' w' =>
      e = .returned (.tuple #[]) ∧ u' = .panicking ({ v := .iface 143 (.agg #[.int .i64 p, .int .i64 x]), recovered := true } :: older) ∧ CatchPost2 g g1 g2 p x w w' := by
  refine callsD_of_wpS Tryz.func120 rfl fun c₀ cs hu => ?_
  apply wpS_seq
  apply wpS_region
  simp [wpOpsS, go_sem, recoverD, hu, Tryz.ntmps120, Exit.thenS]
  apply wpS_seq
  apply wpS_region
  simp [wpOpsS, go_sem, recoverD, Exit.thenS]
  refine wpS_cond (t := true) (by simp [Act.eval, Array.replicate]) ?_
  simp only [if_true]
  refine wpS_of_wp ?_
  have hta := assert67 p x
  clear hu
  rw [show (#[Value.pointer (some { block := g, off := 0 }), Value.pointer (some { block := g1, off := 0 }), Value.pointer (some { block := g2, off := 0 })] ++ ((((Array.replicate 20 undef).setIfInBounds 4 (Value.iface 143 (Value.agg #[Value.int IntKind.i64 p, Value.int IntKind.i64 x]))).setIfInBounds 0 (Value.iface 143 (Value.agg #[Value.int IntKind.i64 p, Value.int IntKind.i64 x]))).setIfInBounds 5 (Value.iface 143 (Value.agg #[Value.int IntKind.i64 p, Value.int IntKind.i64 x]))).setIfInBounds 6 (Value.bool true)) = #[.pointer (some ⟨g, 0, none⟩), .pointer (some ⟨g1, 0, none⟩), .pointer (some ⟨g2, 0, none⟩), .iface 143 (.agg #[.int .i64 p, .int .i64 x]), undef, undef, undef, .iface 143 (.agg #[.int .i64 p, .int .i64 x]), .iface 143 (.agg #[.int .i64 p, .int .i64 x]), .bool true, undef, undef, undef, undef, undef, undef, undef, undef, undef, undef, undef, undef, undef] from by kernel_rfl]
  go_wp2
  have l1 := (Array.getElem?_eq_some_iff.1 h1).1
  have l2 := (Array.getElem?_eq_some_iff.1 h2).1
  have hb : Below w.heap.size w (w.alloc (.cells #[.int .i64 p, .int .i64 x] 143)) := (Below.refl _ w).alloc (Nat.le_refl _) _
  have b0 := (hb.block g (by omega)).trans h0
  have b1 := (hb.block g1 (by omega)).trans h1
  have b2 := (hb.block g2 (by omega)).trans h2
  have b3 : (w.alloc (.cells #[.int .i64 p, .int .i64 x] 143)).heap[w.heap.size]? = some (.cells #[.int .i64 p, .int .i64 x] 143 (0, 0)) := heap_alloc_new _ _
  generalize hw2 : w.alloc (.cells #[.int .i64 p, .int .i64 x] 143) = w2 at *
  clear hw2
  have c30 := cell_of_row _ _ 0 _ _ _ b3
  have c31 := cell_of_row _ _ 1 _ _ _ b3
  have d00 := cell_of_row _ _ 0 _ _ _ b0
  have f00 := frozen_of_row _ _ 0 _ _ b0
  have d10 := cell_of_row _ _ 0 _ _ _ b1
  have d20 := cell_of_row _ _ 0 _ _ _ b2
  have f10 := frozen_of_row _ _ 0 _ _ b1
  have f20 := frozen_of_row _ _ 0 _ _ b2
  have e1 : g ≠ g1 := by omega
  have e2 : g ≠ g2 := by omega
  have e3 : g1 ≠ g2 := by omega
  have e4 : w.heap.size ≠ g := by omega
  have e5 : w.heap.size ≠ g1 := by omega
  have e6 : w.heap.size ≠ g2 := by omega
  simp at d00 d10 d20 c30 c31
  go_region
  refine ⟨rfl, _, rfl, .tuple #[], by simp [results, Tryz.results120, go_sem], rfl, rfl, ?_⟩
  refine ⟨?_, ?_, ?_, ?_⟩
  · refine Below.drew (Below.setCell (Below.setCell (Below.setCell (hb.mono (by omega)) ?_ _) ?_ _) ?_ _)
    all_goals (dsimp only; omega)
  · rw [heap_drew, heap_setCell_other _ _ _ _ e2, heap_setCell_other _ _ _ _ e1]
    exact heap_setCell_same _ g 0 #[v0] 22 _ b0
  · rw [heap_drew, heap_setCell_other _ _ _ _ e3]
    exact heap_setCell_same _ g1 0 #[v1] 3 _ ((heap_setCell_other _ _ _ _ (Ne.symm e1)).trans b1)
  · rw [heap_drew]
    exact heap_setCell_same _ g2 0 #[v2] 24 _ ((heap_setCell_other _ _ _ _ (Ne.symm e3)).trans ((heap_setCell_other _ _ _ _ (Ne.symm e2)).trans b2))

abbrev w4of (w : World) : World := ((w.alloc (.cells #[.slice none 0 0] 22)).alloc (.cells #[.int .i64 0] 3)).alloc (.cells #[.int .i64 0] 24)
theorem w4_b0 (w : World) : (w4of w).heap[w.heap.size]? = some (.cells #[.slice none 0 0] 22 (0, 0)) :=
  (alloc_old (by simp; omega)).trans ((alloc_old (by simp)).trans (heap_alloc_new _ _))
theorem w4_b1 (w : World) : (w4of w).heap[w.heap.size + 1]? = some (.cells #[.int .i64 0] 3 (0, 0)) := by
  have h := heap_alloc_new (w.alloc (.cells #[.slice none 0 0] 22)) (.cells #[.int .i64 0] 3)
  exact (alloc_old (by simp)).trans (by simpa using h)
theorem w4_b2 (w : World) : (w4of w).heap[w.heap.size + 2]? = some (.cells #[.int .i64 0] 24 (0, 0)) := by
  have h := heap_alloc_new ((w.alloc (.cells #[.slice none 0 0] 22)).alloc (.cells #[.int .i64 0] 3)) (.cells #[.int .i64 0] 24)
  simpa using h
theorem w4_below (w : World) : Below w.heap.size w (w4of w) := (((Below.refl _ w).alloc (Nat.le_refl _) _).alloc (by simp) _).alloc (by simp; omega) _

set_option maxRecDepth 100000 in
set_option maxHeartbeats 1000000 in
theorem readIt_lex (s : ByteArray) (w : World) (hs : s.size ≤ 65536) (f : Value) {p : Nat} {x : Int} (hx : allT s = .error (p, x)) :
    Calls Tryz.prog 59 #[.string s, f] w (ReadsPost s w (.error (p, x))) := by
  have HX := hid hx
  clear hx
  have hs2 : s.size ≤ 140737488351232 := by omega
  have e1 : w.heap.size ≠ w.heap.size + 1 := by omega
  have e2 : w.heap.size ≠ w.heap.size + 1 + 1 := by omega
  have e3 : w.heap.size + 1 ≠ w.heap.size + 1 + 1 := by omega
  go_enter_defers Tryz.func59, Tryz.ntmps59
  go_wp2_with (go_at_call 104; refine (all_any s _ hs2).mono ?_; rintro e w1 hp; obtain ⟨hb, hne, rfl⟩ := hp.bad HX.out; have b0 := (hb.block w.heap.size (by simp; omega)).trans (w4_b0 w); have b1 := (hb.block (w.heap.size + 1) (by simp)).trans (w4_b1 w); have b2 := (hb.block (w.heap.size + 1 + 1) (by simp)).trans (w4_b2 w); have c1 : w1.cell? ⟨w.heap.size + 1, 0, none⟩ = some (.int .i64 0) := cell_of_row _ _ 0 _ _ _ b1; have c2 : w1.cell? ⟨w.heap.size + 1 + 1, 0, none⟩ = some (.int .i64 0) := cell_of_row _ _ 0 _ _ _ b2; have f1 := frozen_of_row _ _ 0 _ _ b1; have f2 := frozen_of_row _ _ 0 _ _ b2)
  have m0 : ((w1.setCell ⟨w.heap.size + 1, 0, none⟩ (.int .i64 p)).setCell ⟨w.heap.size + 1 + 1, 0, none⟩ (.int .i64 x)).heap[w.heap.size]? = some (.cells #[.slice none 0 0] 22 (0, 0)) := (heap_setCell_other _ _ _ _ e2).trans ((heap_setCell_other _ _ _ _ e1).trans b0)
  have m1 : ((w1.setCell ⟨w.heap.size + 1, 0, none⟩ (.int .i64 p)).setCell ⟨w.heap.size + 1 + 1, 0, none⟩ (.int .i64 x)).heap[w.heap.size + 1]? = some (.cells #[.int .i64 p] 3 (0, 0)) := (heap_setCell_other _ _ _ _ e3).trans (heap_setCell_same _ _ 0 _ _ _ b1)
  have m2 : ((w1.setCell ⟨w.heap.size + 1, 0, none⟩ (.int .i64 p)).setCell ⟨w.heap.size + 1 + 1, 0, none⟩ (.int .i64 x)).heap[w.heap.size + 1 + 1]? = some (.cells #[.int .i64 x] 24 (0, 0)) := heap_setCell_same _ _ 0 _ _ _ ((heap_setCell_other _ _ _ _ (Ne.symm e3)).trans b2)
  have mb : Below w.heap.size w ((w1.setCell ⟨w.heap.size + 1, 0, none⟩ (.int .i64 p)).setCell ⟨w.heap.size + 1 + 1, 0, none⟩ (.int .i64 x)) := (((w4_below w).trans (hb.mono (by simp; omega))).setCell (by dsimp only; omega) _).setCell (by dsimp only; omega) _
  clear b0 b1 b2 c1 c2 f1 f2 hb hp
  generalize ((w1.setCell ⟨w.heap.size + 1, 0, none⟩ (.int .i64 p)).setCell ⟨w.heap.size + 1 + 1, 0, none⟩ (.int .i64 x)) = w2 at *
  have d0 := cell_of_row _ _ 0 _ _ _ m0
  have g0 := frozen_of_row _ _ 0 _ _ m0
  have d10 := cell_of_row _ _ 0 _ _ _ m1
  have g10 := frozen_of_row _ _ 0 _ _ m1
  have d20 := cell_of_row _ _ 0 _ _ _ m2
  have g20 := frozen_of_row _ _ 0 _ _ m2
  simp at d0 d10 d20
  go_region
  go_wp2
  refine ⟨_, results_lll rfl _ _ w.heap.size (w.heap.size + 1) (w.heap.size + 1 + 1) 22 3 24 (.slice none 0 0) (.int .i64 p) (.int .i64 x) rfl ?_ rfl ?_ rfl ?_, ?_, rfl⟩
  · rw [heap_drew, heap_setCell_other _ _ _ _ e2, heap_setCell_other _ _ _ _ e1]
    exact heap_setCell_same _ _ 0 _ _ _ m0
  · rw [heap_drew, heap_setCell_other _ _ _ _ e3]
    exact heap_setCell_same _ _ 0 _ _ _ ((heap_setCell_other _ _ _ _ (Ne.symm e1)).trans m1)
  · rw [heap_drew]
    exact heap_setCell_same _ _ 0 _ _ _ ((heap_setCell_other _ _ _ _ (Ne.symm e3)).trans ((heap_setCell_other _ _ _ _ (Ne.symm e2)).trans m2))
  · refine Below.drew (Below.setCell (Below.setCell (Below.setCell mb ?_ _) ?_ _) ?_ _)
    all_goals (dsimp only; omega)
end Go.Proofs.YtfljcfdfgojdoaaGreatDoor

namespace Go.Proofs.YtfljcfdfgojdoaaGreatDoor
open Go.RowKit Go.Lib

abbrev catchF (n : Nat) : Deferred := { target := .fn (.func 120) #[.pointer (some ⟨n, 0, none⟩), .pointer (some ⟨n + 1, 0, none⟩), .pointer (some ⟨n + 1 + 1, 0, none⟩)], args := #[] }
theorem leaves_caught2 (s : ByteArray) (w w7 : World) {X : Except (Int × Int) (List It)} (v0 v1 v2 : Value) (p y : Int) (hX : X = .error (p, y)) (tmps : Array Value) (t4 : tmps.getD 4 undef = .pointer (some ⟨w.heap.size, 0, none⟩)) (t5 : tmps.getD 5 undef = .pointer (some ⟨w.heap.size + 1, 0, none⟩)) (t6 : tmps.getD 6 undef = .pointer (some ⟨w.heap.size + 1 + 1, 0, none⟩))
    (hb : Below w.heap.size w w7) (h0 : w7.heap[w.heap.size]? = some (.cells #[v0] 22 (0, 0))) (h1 : w7.heap[w.heap.size + 1]? = some (.cells #[v1] 3 (0, 0))) (h2 : w7.heap[w.heap.size + 1 + 1]? = some (.cells #[v2] 24 (0, 0))) :
    Leaves Tryz.prog Tryz.f59 tmps (ReadsPost s w X) [catchF w.heap.size] (.panicking [{ v := .iface 143 (.agg #[.int .i64 p, .int .i64 y]), recovered := false }]) w7 := by
  subst hX
  refine leaves_cons (f := 120) (args := #[.pointer (some ⟨w.heap.size, 0, none⟩), .pointer (some ⟨w.heap.size + 1, 0, none⟩), .pointer (some ⟨w.heap.size + 1 + 1, 0, none⟩)]) (by simp) (by simp [go_sem]) ?_
  refine (catch_panicking2 w.heap.size (w.heap.size + 1) (w.heap.size + 1 + 1) v0 v1 v2 p y [] w7 h0 h1 h2 (by omega) (by omega)).mono ?_
  rintro e u' w'' ⟨rfl, rfl, hb', b0', b1', b2'⟩
  exact ⟨_, results_lll rfl tmps w'' w.heap.size (w.heap.size + 1) (w.heap.size + 1 + 1) 22 3 24 (.slice none 0 0) (.int .i64 p) (.int .i64 y) t4 b0' t5 b1' t6 b2', hb.trans hb', rfl⟩
theorem leaves_idle2 (s : ByteArray) (w w7 : World) {X : Except (Int × Int) (List It)} (l : List It) (hX : X = .ok l) (v : Value) (tmps : Array Value) (t4 : tmps.getD 4 undef = .pointer (some ⟨w.heap.size, 0, none⟩)) (t5 : tmps.getD 5 undef = .pointer (some ⟨w.heap.size + 1, 0, none⟩)) (t6 : tmps.getD 6 undef = .pointer (some ⟨w.heap.size + 1 + 1, 0, none⟩))
    (hb : Below w.heap.size w w7) (h0 : w7.heap[w.heap.size]? = some (.cells #[v] 22 (0, 0))) (h1 : w7.heap[w.heap.size + 1]? = some (.cells #[.int .i64 s.size] 3 (0, 0))) (h2 : w7.heap[w.heap.size + 1 + 1]? = some (.cells #[.int .i64 0] 24 (0, 0))) (hr : Its w.heap.size w7 l v) :
    Leaves Tryz.prog Tryz.f59 tmps (ReadsPost s w X) [catchF w.heap.size] .returning w7 := by
  subst hX
  refine leaves_cons (f := 120) (args := #[.pointer (some ⟨w.heap.size, 0, none⟩), .pointer (some ⟨w.heap.size + 1, 0, none⟩), .pointer (some ⟨w.heap.size + 1 + 1, 0, none⟩)]) (by simp) (by simp [go_sem]) ?_
  refine (catch_idle2 _ _ _ w7).mono ?_
  rintro e u' w'' ⟨rfl, rfl, rfl⟩
  exact ⟨_, results_lll rfl tmps w'' w.heap.size (w.heap.size + 1) (w.heap.size + 1 + 1) 22 3 24 v (.int .i64 s.size) (.int .i64 0) t4 h0 t5 h1 t6 h2, hb, v, rfl, hr⟩
theorem Pz.setOther' {T : List Tok} {bp bt cap a dep g : Nat} {w : World} (h : Pz T bp bt cap a dep w) (h1 : bp ≠ g) (h2 : bt ≠ g) (v : Value) : Pz T bp bt cap a dep (w.setCell ⟨g, 0, none⟩ v) := h.setOther h1 h2 0 v
theorem Its.frame {base b2 : Nat} {w w' : World} {l : List It} {v : Value} (h : Its base w l v) (h2 : b2 ≤ base) (hf : ∀ g, base ≤ g → g < w.heap.size → w'.heap[g]? = w.heap[g]?) : Its b2 w' l v := by
  obtain ⟨xs, h1, h3⟩ := h.own
  exact ⟨xs, ownsRow_same h1 (fun g hg => Nat.le_trans h2 (own_block h1 hg)) (fun g hg hl => hf g (own_block h1 hg) hl), h3.frame (fun _ hg _ => ⟨Nat.le_trans h2 hg.1, hg.2⟩) (fun g hg hl => hf g hg.1 hl)⟩

set_option maxRecDepth 100000 in
set_option maxHeartbeats 2000000 in
theorem readIt_ok (s : ByteArray) (w : World) (hs : s.size ≤ 65536) {l : List Tok} (hx : allT s = .ok l) :
    Calls Tryz.prog 59 #[.string s, .func (.func 60) #[] #[]] w (ReadsPost s w (closeF (toksOf s l) (fileM (toksOf s l) 0 0))) := by
  have HX := hid hx
  clear hx
  have hs2 : s.size ≤ 140737488351232 := by omega
  have e1 : w.heap.size ≠ w.heap.size + 1 := by omega
  have e2 : w.heap.size ≠ w.heap.size + 1 + 1 := by omega
  have e3 : w.heap.size + 1 ≠ w.heap.size + 1 + 1 := by omega
  have hmf : ∀ (fn : Fn) (first cap : Array Value) (w : World), (Instr.makeFunc fn first cap).run Tryz.prog w = .ok (.func fn first cap) w := fun _ _ _ _ => rfl
  obtain ⟨i0, hi, hz0, hz1, hz2⟩ := info_parts info63'
  go_enter_defers Tryz.func59, Tryz.ntmps59
  go_wp2_with (first | (go_at_call 104; refine (all_any s _ hs2).mono ?_; rintro e w1 hp; obtain ⟨hb, hll, v, hown, rfl⟩ := hp.good HX.out; have b0 := (hb.block w.heap.size (by simp; omega)).trans (w4_b0 w); have b1 := (hb.block (w.heap.size + 1) (by simp)).trans (w4_b1 w); have b2 := (hb.block (w.heap.size + 1 + 1) (by simp)).trans (w4_b2 w); have c1 : w1.cell? ⟨w.heap.size + 1, 0, none⟩ = some (.int .i64 0) := cell_of_row _ _ 0 _ _ _ b1; have c2 : w1.cell? ⟨w.heap.size + 1 + 1, 0, none⟩ = some (.int .i64 0) := cell_of_row _ _ 0 _ _ _ b2; have f1 := frozen_of_row _ _ 0 _ _ b1; have f2 := frozen_of_row _ _ 0 _ _ b2; have HO := hid (ownsRow_setCell_below (ownsRow_setCell_below hown (a := ⟨w.heap.size + 1, 0, none⟩) (by simp) (.int .i64 s.size)) (a := ⟨w.heap.size + 1 + 1, 0, none⟩) (by simp) (.int .i64 0)); have hsz1 := hb.size; simp only [World.size_alloc] at hsz1; clear hp hown) | (at_builtin; go_loud (have hc1 := news_blk (two_new w1 ⟨w.heap.size + 1, 0, none⟩ ⟨w.heap.size + 1 + 1, 0, none⟩ (.int .i64 s.size) (.int .i64 0) (.cells (endC s) 139)); have hc3 : l.length + 1 ≤ maxLen := (by unfold maxLen; omega); have hc5 : (w4of w).heap.size ≤ (((w1.setCell ⟨w.heap.size + 1, 0, none⟩ (.int .i64 s.size)).setCell ⟨w.heap.size + 1 + 1, 0, none⟩ (.int .i64 0)).alloc (.cells (endC s) 139)).heap.size := (by have := hb.size; simp at *; omega); refine wpList_append_lies _ rfl (.tmp 20) (.tmp 24) 135 rfl (w4of w).heap.size 139 i0 _ 8 72 Tryz.underlying135 hi hz0 hz1 hz2 rfl (by decide) _ _ _ rfl (HO.out.alloc _) ⟨w1.heap.size, 0, none⟩ 1 1 (endC s).toList rfl rfl hc1 (one_of_all rfl) Nat.one_pos hc3 (by omega) hc5 (w1.heap.size + 1) (by simp) ?_)))
  intro g cap w5 ho hg _ hlt
  have hz0 := Pz.start (s := s) ho (by omega)
  have hns : w.heap.size + 3 ≤ w5.heap.size := by have := hg.size; simp [World.setCell] at this; omega
  have hlow : ∀ k, k < w.heap.size + 3 → (w5.alloc (.cells #[.slice (some ⟨g, 0, none⟩) (l.length + 1) cap, .int .i64 0, .int .i64 0] 141)).heap[k]? = ((w1.setCell ⟨w.heap.size + 1, 0, none⟩ (.int .i64 s.size)).setCell ⟨w.heap.size + 1 + 1, 0, none⟩ (.int .i64 0)).heap[k]? := fun k hk =>
    (alloc_old (by omega)).trans ((hg.block k (by simp [World.setCell]; omega) (fun e => by have := own_block HO.out e.symm; simp at this; omega)).trans (alloc_old (by simp [World.setCell]; omega)))
  have q0 := (hlow w.heap.size (by omega)).trans ((heap_setCell_other _ _ _ _ e2).trans ((heap_setCell_other _ _ _ _ e1).trans b0))
  have q1 := (hlow (w.heap.size + 1) (by omega)).trans ((heap_setCell_other _ _ _ _ e3).trans (heap_setCell_same _ _ 0 _ _ _ b1))
  have q2 := (hlow (w.heap.size + 1 + 1) (by omega)).trans (heap_setCell_same _ _ 0 _ _ _ ((heap_setCell_other _ _ _ _ (Ne.symm e3)).trans b2))
  have qb : Below w.heap.size w (w5.alloc (.cells #[.slice (some ⟨g, 0, none⟩) (l.length + 1) cap, .int .i64 0, .int .i64 0] 141)) := by
    refine ((((((w4_below w).trans (hb.mono (by simp; omega))).setCell (by dsimp only; omega) (p := ⟨w.heap.size + 1, 0, none⟩) (.int .i64 s.size)).setCell (by dsimp only; omega) (p := ⟨w.heap.size + 1 + 1, 0, none⟩) (.int .i64 0)).alloc (by simp [World.setCell]; omega) (.cells (endC s) 139)).grown hg (by simp [World.setCell]; omega) (fun k hk => by have := own_block HO.out hk; simp at this; omega)).alloc (by omega) _
  have hgn : w.heap.size + 3 ≤ g := by have := own_block ho (g := g) rfl; omega
  clear hlow b0 b1 b2 c1 c2 f1 f2 HO hc1 hc5 hc3 hg hlt ho hb
  have hn0 : some w.heap.size ≠ some w5.heap.size := fun e => by have := Option.some.inj e; omega
  have hn1 : some (w.heap.size + 1) ≠ some w5.heap.size := fun e => by have := Option.some.inj e; omega
  have hn2 : some (w.heap.size + 1 + 1) ≠ some w5.heap.size := fun e => by have := Option.some.inj e; omega
  have hT : (toksOf s l).length = l.length + 1 := by simp [toksOf]
  have hl0 := (Array.getElem?_eq_some_iff.1 q0).1
  have hl1 := (Array.getElem?_eq_some_iff.1 q1).1
  have hl2 := (Array.getElem?_eq_some_iff.1 q2).1
  generalize hw6 : w5.alloc (.cells #[.slice (some ⟨g, 0, none⟩) (l.length + 1) cap, .int .i64 0, .int .i64 0] 141) = w6 at *
  have hbp : w.heap.size ≤ w5.heap.size := by omega
  rcases hx : fileM (toksOf s l) 0 0 with ⟨p, y⟩ | ⟨r, a⟩
  · have HC := hid (closeF_bad (toksOf s l) hx)
    rw [← hx]
    have HA := hid hx
    clear hx
    go_wp2_with (go_at_call 60; refine (file_any hz0).mono ?_; rintro e w7 hp; obtain ⟨hk7, rfl⟩ := hp.bad HA.out)
    exact leaves_caught2 s w w7 _ _ _ p y HC.out _ rfl rfl rfl (below_of_kept qb hk7 hbp) ((hk7.block _ hl0 hn0).trans q0) ((hk7.block _ hl1 hn1).trans q1) ((hk7.block _ hl2 hn2).trans q2)
  · rw [← hx]
    have ngb : g ≠ w.heap.size := by omega
    have nbp : w5.heap.size ≠ w.heap.size := by omega
    have hq0 := field0
    cases hkd : ((tokAt (toksOf s l) a).kind != 0)
    · have HC := hid (closeF_ok _ hx hkd)
      have HA := hid hx
      have HK := hid hkd
      clear hx
      go_wp2_with (first | (go_at_call 60; refine (file_any hz0).mono ?_; rintro e w7 hp; obtain ⟨hk7, hz7, v7, rfl, hr⟩ := hp.good HA.out; obtain ⟨ad, n7, rfl⟩ := hr.shape; have HR := hid hr; have p0 := hid ((hk7.block _ hl0 hn0).trans q0); have p1 := hid ((hk7.block _ hl1 hn1).trans q1); have p2 := hid ((hk7.block _ hl2 hn2).trans q2); have s7 := hk7.size; have c70 : w7.cell? ⟨w.heap.size, 0, none⟩ = some (.slice none 0 0) := cell_of_row _ _ 0 _ _ _ p0.out; have f70 := frozen_of_row _ _ 0 _ _ p0.out; clear hp hr) | (go_at_call 106; refine (tok_any (hz7.setOther' nbp ngb (.slice ad r.length n7))).mono ?_; rintro e w8 ⟨rfl, hb8⟩; simp only [Tok.cells]; have b80 := hid ((hb8.block w.heap.size (by simp [World.setCell]; omega)).trans (heap_setCell_same _ _ 0 _ _ (.slice ad r.length n7) p0.out)); have b81 := hid ((hb8.block (w.heap.size + 1) (by simp [World.setCell]; omega)).trans ((heap_setCell_other _ _ _ _ (Ne.symm e1)).trans p1.out)); have b82 := hid ((hb8.block (w.heap.size + 1 + 1) (by simp [World.setCell]; omega)).trans ((heap_setCell_other _ _ _ _ (Ne.symm e2)).trans p2.out)); have d0 : w8.cell? ⟨w.heap.size, 0, none⟩ = some (.slice ad r.length n7) := cell_of_row _ _ 0 _ _ _ b80.out; have d1 : w8.cell? ⟨w.heap.size + 1, 0, none⟩ = some (.int .i64 s.size) := cell_of_row _ _ 0 _ _ _ b81.out; have d2 : w8.cell? ⟨w.heap.size + 1 + 1, 0, none⟩ = some (.int .i64 0) := cell_of_row _ _ 0 _ _ _ b82.out; have f0 := frozen_of_row _ _ 0 _ _ b80.out; have f1 := frozen_of_row _ _ 0 _ _ b81.out; have f2 := frozen_of_row _ _ 0 _ _ b82.out))
      have hb7 : Below w.heap.size w w7 := below_of_kept qb hk7 hbp
      have hb8' : Below w.heap.size w w8 := (hb7.setCell (p := ⟨w.heap.size, 0, none⟩) (Nat.le_refl _) _).trans (hb8.mono (by simp [World.setCell]; omega))
      refine leaves_idle2 s w _ r HC.out (.slice ad r.length n7) _ rfl rfl rfl ?_ ?_ ?_ ?_ ?_
      · refine Below.setCell (Below.setCell (Below.setCell hb8' ?_ _) ?_ _) ?_ _
        all_goals (dsimp only; omega)
      · exact (heap_setCell_other _ _ _ _ e2).trans ((heap_setCell_other _ _ _ _ e1).trans (heap_setCell_same _ _ 0 _ _ _ b80.out))
      · exact (heap_setCell_other _ _ _ _ e3).trans (heap_setCell_same _ _ 0 _ _ _ ((heap_setCell_other _ _ _ _ (Ne.symm e1)).trans b81.out))
      · exact heap_setCell_same _ _ 0 _ _ _ ((heap_setCell_other _ _ _ _ (Ne.symm e3)).trans ((heap_setCell_other _ _ _ _ (Ne.symm e2)).trans b82.out))
      · refine HR.out.frame (by omega) (fun k hk hl => ?_)
        have hk' : w.heap.size + 4 ≤ k := by have := Nat.le_trans hns (by rw [← hw6, World.size_alloc]; omega : w5.heap.size ≤ w6.heap.size); rw [← hw6, World.size_alloc] at hk; omega
        exact (heap_setCell_other _ _ _ _ (by dsimp only; omega)).trans ((heap_setCell_other _ _ _ _ (by dsimp only; omega)).trans ((heap_setCell_other _ _ _ _ (by dsimp only; omega)).trans ((hb8.block k (by simpa [World.setCell] using hl)).trans (heap_setCell_other _ _ _ _ (by dsimp only; omega)))))
    · have HC := hid (closeF_end _ hx hkd)
      have HA := hid hx
      clear hx
      go_wp2_with (first | (go_at_call 60; refine (file_any hz0).mono ?_; rintro e w7 hp; obtain ⟨hk7, hz7, v7, rfl, hr⟩ := hp.good HA.out; obtain ⟨ad, n7, rfl⟩ := hr.shape; have p0 := hid ((hk7.block _ hl0 hn0).trans q0); have p1 := hid ((hk7.block _ hl1 hn1).trans q1); have p2 := hid ((hk7.block _ hl2 hn2).trans q2); have s7 := hk7.size; have c70 : w7.cell? ⟨w.heap.size, 0, none⟩ = some (.slice none 0 0) := cell_of_row _ _ 0 _ _ _ p0.out; have f70 := frozen_of_row _ _ 0 _ _ p0.out; clear hp hr) | (go_at_call 106; refine (tok_any (hz7.setOther' nbp ngb (.slice ad r.length n7))).mono ?_; rintro e w8 ⟨rfl, hb8⟩; simp only [Tok.cells]; have b80 := hid ((hb8.block w.heap.size (by simp [World.setCell]; omega)).trans (heap_setCell_same _ _ 0 _ _ (.slice ad r.length n7) p0.out)); have b81 := hid ((hb8.block (w.heap.size + 1) (by simp [World.setCell]; omega)).trans ((heap_setCell_other _ _ _ _ (Ne.symm e1)).trans p1.out)); have b82 := hid ((hb8.block (w.heap.size + 1 + 1) (by simp [World.setCell]; omega)).trans ((heap_setCell_other _ _ _ _ (Ne.symm e2)).trans p2.out))) | (go_at_call 107; refine (fail_any ((hz7.setOther' nbp ngb (.slice ad r.length n7)).below hb8) _).mono ?_; rintro e w9 ⟨rfl, hb9⟩))
      have hb7 : Below w.heap.size w w7 := below_of_kept qb hk7 hbp
      have hb8' : Below w.heap.size w w8 := (hb7.setCell (p := ⟨w.heap.size, 0, none⟩) (Nat.le_refl _) _).trans (hb8.mono (by simp [World.setCell]; omega))
      have s8 : w7.heap.size ≤ w8.heap.size := by have := hb8.size; simpa [World.setCell] using this
      exact leaves_caught2 s w w9 _ _ _ _ 4 HC.out _ rfl rfl rfl (bnext hb8' hb9) ((hb9.block _ (by omega)).trans b80.out) ((hb9.block _ (by omega)).trans b81.out) ((hb9.block _ (by omega)).trans b82.out)

theorem readIt_any (s : ByteArray) (w : World) (hs : s.size ≤ 65536) :
    Calls Tryz.prog 59 #[.string s, .func (.func 60) #[] #[]] w (ReadsPost s w (parseFile s)) := by
  rcases hx : allT s with ⟨p, x⟩ | l
  · have h : parseFile s = .error ((p : Int), x) := by unfold parseFile; rw [hx]
    rw [h]
    exact readIt_lex s w hs _ hx
  · have h : parseFile s = closeF (toksOf s l) (fileM (toksOf s l) 0 0) := by unfold parseFile; rw [hx]
    rw [h]
    exact readIt_ok s w hs hx
theorem ReadsPost.shape {s : ByteArray} {w w' : World} {e : Ending} {X : Except (Int × Int) (List It)} (h : ReadsPost s w X e w') : ∃ v p y, e = .returned (.tuple #[v, p, y]) := by
  obtain ⟨_, h⟩ := h
  rcases X with ⟨p, y⟩ | l
  · exact ⟨_, _, _, h⟩
  · obtain ⟨v, h, _⟩ := h
    exact ⟨_, _, _, h⟩
set_option maxRecDepth 100000 in
set_option maxHeartbeats 1000000 in
theorem parseFile_any (s : ByteArray) (w : World) (hs : s.size ≤ 65536) :
    Calls Tryz.prog 24 #[.string s] w (ReadsPost s w (parseFile s)) := by
  go_enter Tryz.func24, Tryz.ntmps24
  go_wp2_with (go_at_call 59; refine (readIt_any s _ hs).mono ?_; rintro e w1 hp; obtain ⟨v, p, y, rfl⟩ := hp.shape)
  exact bodyPost_ret (v := .tuple #[v, p, y]) (by simp [results, Tryz.results24, go_sem]) rfl hp
end Go.Proofs.YtfljcfdfgojdoaaGreatDoor
