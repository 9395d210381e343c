/-
  What read hands back, as a plain function, and its results out of memory.
-/
import Derived.Test.YtcedjjlflahpcaaParJ
namespace Go.Proofs.Ytcedjjlflahpcaa
open Go.RowKit Go.Lib

/-- the tokens that a parser takes: those of the text, and that of its end -/
def endTok (s : ByteArray) : Tok := ⟨0, [], Se.none, 0, s.size⟩
def toksOf (s : ByteArray) (l : List Tok) : List Tok := l ++ [endTok s]
/-- behind a rule: all must have been taken -/
def closeM (T : List Tok) (x : R) : Except (Int × Int) Re :=
  match x with
  | .error e => .error e
  | .ok (r, a) => if (tokAt T a).kind ≠ 0 then .error ((tokAt T a).pos, 4) else .ok r
def parseRe (s : ByteArray) : Except (Int × Int) Re :=
  match allT s with
  | .error (p, x) => .error (p, x)
  | .ok l => closeM (toksOf s l) (altM notNone (toksOf s l) 33 0 0)
theorem AllPost.bad {s : ByteArray} {w w' : World} {e : Ending} (h : AllPost s w e w') {p : Nat} {x : Int} (hx : allT s = .error (p, x)) :
    Below w.heap.size w w' ∧ (x != 0) = true ∧ e = .returned (.tuple #[.slice none 0 0, .int .i64 (p : Nat), .int .i64 x]) := by
  rcases h with ⟨hb, ⟨p', x', h1, h2, h3⟩ | ⟨l, v, h1, _⟩⟩
  · rw [hx] at h1
    cases h1
    exact ⟨hb, h2, h3⟩
  · rw [hx] at h1; cases h1
theorem AllPost.good {s : ByteArray} {w w' : World} {e : Ending} (h : AllPost s w e w') {l : List Tok} (hx : allT s = .ok l) :
    Below w.heap.size w w' ∧ l.length ≤ s.size ∧ ∃ v, w'.ownsRow w.heap.size 63 8 v l.length (tokCells l) ∧ e = .returned (.tuple #[v, .int .i64 s.size, .int .i64 0]) := by
  rcases h with ⟨hb, ⟨p', x', h1, h2, h3⟩ | ⟨l', v, h1, h2, h3, h4⟩⟩
  · rw [hx] at h1; cases h1
  · rw [hx] at h1
    cases h1
    exact ⟨hb, h2, v, h3, h4⟩
/-- what read[Re] and Re hand back -/
def ReadPost (s : ByteArray) (w : World) (x : Except (Int × Int) Re) (e : Ending) (w' : World) : Prop :=
  Below w.heap.size w w' ∧ match x with
  | .ok r => ∃ cs, e = .returned (.tuple #[.agg cs, .int .i64 s.size, .int .i64 0]) ∧ ReAt w.heap.size w' r cs
  | .error (p, y) => e = .returned (.tuple #[.agg reZ, .int .i64 p, .int .i64 y])
theorem agg3 (w : World) : (isAgg 3).run Try.prog w = .ok false w := by kernel_rfl
theorem agg28 (w : World) : (isAgg 28).run Try.prog w = .ok false w := by kernel_rfl
theorem loadVar3 (w : World) (a : Addr) (v : Value) (h : w.cell? a = some v) : (loadVar 3 a).run Try.prog w = .ok v w := by
  have := agg3 w
  simp [loadVar, go_sem, this, h]
theorem loadVar28 (w : World) (a : Addr) (v : Value) (h : w.cell? a = some v) : (loadVar 28 a).run Try.prog w = .ok v w := by
  have := agg28 w
  simp [loadVar, go_sem, this, h]
theorem results_ccc {fn : Func} {p q r : Tmp} (h : fn.results = #[.cell p 27, .cell q 3, .cell r 28]) (tmps : Array Value) (w : World) (g g1 g2 : Nat) (t t1 t2 : TypeId) (cs : Array Value) (fr : Nat × Nat)
    (x1 x2 : Value) (hp : tmps.getD p undef = .pointer (some ⟨g, 0, none⟩)) (hg : w.heap[g]? = some (.cells cs t fr))
    (hn : cs.size = 9)
    (hq : tmps.getD q undef = .pointer (some ⟨g1, 0, none⟩)) (hg1 : w.heap[g1]? = some (.cells #[x1] t1 (0, 0)))
    (hr : tmps.getD r undef = .pointer (some ⟨g2, 0, none⟩)) (hg2 : w.heap[g2]? = some (.cells #[x2] t2 (0, 0))) :
    (results fn tmps).run Try.prog w = .ok (.tuple #[.agg cs, x1, x2]) w := by
  have hp' : tmps[p]?.getD undef = .pointer (some ⟨g, 0, none⟩) := by simpa using hp
  have hq' : tmps[q]?.getD undef = .pointer (some ⟨g1, 0, none⟩) := by simpa using hq
  have hr' : tmps[r]?.getD undef = .pointer (some ⟨g2, 0, none⟩) := by simpa using hr
  have c1 : w.cell? ⟨g1, 0, none⟩ = some x1 := cell_of_row _ _ 0 _ _ _ hg1
  have c2 : w.cell? ⟨g2, 0, none⟩ = some x2 := cell_of_row _ _ 0 _ _ _ hg2
  have l1 := loadVar3 _ _ _ c1
  have l2 := loadVar28 _ _ _ c2
  simp [results, h, hp', hq', hr', asAddr, run_loadVar_row w g t 27 cs fr _ hg Try.underlying27 rfl (by rw [hn]; exact info27), l1, l2]

abbrev w3of (w : World) : World := ((w.alloc (.cells reZ 27)).alloc (.cells #[.int .i64 0] 3)).alloc (.cells #[.int .i64 0] 28)
theorem w3_b0 (w : World) : (w3of w).heap[w.heap.size]? = some (.cells reZ 27 (0, 0)) :=
  (alloc_old (by simp; omega)).trans ((alloc_old (by simp)).trans (heap_alloc_new _ _))
theorem w3_b1 (w : World) : (w3of w).heap[w.heap.size + 1]? = some (.cells #[.int .i64 0] 3 (0, 0)) := by
  have h := heap_alloc_new (w.alloc (.cells reZ 27)) (.cells #[.int .i64 0] 3)
  exact (alloc_old (by simp)).trans (by simpa using h)
theorem w3_b2 (w : World) : (w3of w).heap[w.heap.size + 2]? = some (.cells #[.int .i64 0] 28 (0, 0)) := by
  have h := heap_alloc_new ((w.alloc (.cells reZ 27)).alloc (.cells #[.int .i64 0] 3)) (.cells #[.int .i64 0] 28)
  simpa using h
theorem w3_size (w : World) : (w3of w).heap.size = w.heap.size + 3 := by simp
theorem w3_below (w : World) : Below w.heap.size w (w3of w) := (((Below.refl _ w).alloc (Nat.le_refl _) _).alloc (by simp) _).alloc (by simp; omega) _
end Go.Proofs.Ytcedjjlflahpcaa
