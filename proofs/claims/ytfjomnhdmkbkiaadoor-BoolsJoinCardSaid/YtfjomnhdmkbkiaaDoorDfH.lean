/-
  Rows of the call's own: stores, reads, what is kept while other blocks turn; rows of rows.
-/
import Derived.Test.YtfjomnhdmkbkiaaDoorDfC
import Derived.Test.YtfjomnhdmkbkiaaDoorDf0
import Derived.Deep.AppendLies
import Derived.OwnWalk
namespace Go.Proofs.YtfjomnhdmkbkiaaDoor.Im
open Go.RowKit Go.Lib

theorem infoI : (Tryd.prog.info? 3).map (fun i => (i.zero, i.size, i.bytes)) = some (some (.int .i64 0), 1, 8) := by kernel_rfl
theorem infoL : (Tryd.prog.info? 4).map (fun i => (i.zero, i.size, i.bytes)) = some (some (.bool false), 1, 1) := by kernel_rfl
theorem infoR : (Tryd.prog.info? 22).map (fun i => (i.zero, i.size, i.bytes)) = some (some (.slice none 0 0), 1, 24) := by kernel_rfl
abbrev iV (z : Int) : Value := .int .i64 z
abbrev lV (b : Bool) : Value := .bool b
theorem own_grown {w w1 : World} {base e size n : Nat} {v : Value} {xs : List Value} {row : Option Nat} (h : w.ownsRow base e size v n xs) (k : w.grownBy w1 row) (hr : ∀ g cur, row = some g → w.heap[g]? ≠ some (.cells cur e (0, 0))) : w1.ownsRow base e size v n xs :=
  ownsRow_same h fun q cur hq _ => k.block q (lt_of_heap hq) (fun e => hr q cur e.symm hq)
theorem own_tag {w : World} {base e size n : Nat} {v : Value} {xs : List Value} (h : w.ownsRow base e size v n xs) {g : Nat} (hg : v.ownBlock = some g) : ∃ cur, w.heap[g]? = some (.cells cur e (0, 0)) := by
  rcases h.2 with ⟨rfl, _⟩ | ⟨g', cap, cur, rfl, _, hh, _⟩
  · simp [Value.ownBlock] at hg
  · simp [Value.ownBlock] at hg; subst hg; exact ⟨cur, hh⟩
theorem own_row {α : Type} {w : World} {base T : Nat} {v : Value} {l : List α} {f : α → Value} {R : Value → α → Prop} (h : w.ownsRow base T 1 v l.length (l.map f)) (hR : ∀ x ∈ l, R (f x) x) : Row (fun g => base ≤ g) w R v l := by
  rcases h.2 with ⟨hv, h0⟩ | ⟨g, cap, cur, hv, hb, hg, hn, hc, hs, ht⟩
  · have : l = [] := List.eq_nil_of_length_eq_zero h0
    subst this
    exact ⟨none, 0, hv, by simp, fun h => absurd rfl h⟩
  · refine ⟨_, _, hv, Nat.le_trans hn hc, fun _ => ⟨g, 0, rfl, hb, fun i hi => ⟨f l[i], ?_, hR _ (List.getElem_mem hi)⟩⟩⟩
    subst hv
    rw [Nat.zero_add, h.cellAt i (by omega), List.getElem?_map, List.getElem?_eq_getElem hi]
    rfl
theorem three_set0 {w : World} {P : Nat} {a b c : Value} {T : TypeId} (v : Value) (h : w.heap[P]? = some (.cells #[a, b, c] T (0, 0))) : (w.setCell ⟨P, 0, none⟩ v).heap[P]? = some (.cells #[v, b, c] T (0, 0)) := by rw [heap_setCell_same _ _ _ _ _ _ h]; rfl
theorem three_set1 {w : World} {P : Nat} {a b c : Value} {T : TypeId} (v : Value) (h : w.heap[P]? = some (.cells #[a, b, c] T (0, 0))) : (w.setCell ⟨P, 1, none⟩ v).heap[P]? = some (.cells #[a, v, c] T (0, 0)) := by rw [heap_setCell_same _ _ _ _ _ _ h]; rfl
theorem three_set2 {w : World} {P : Nat} {a b c : Value} {T : TypeId} (v : Value) (h : w.heap[P]? = some (.cells #[a, b, c] T (0, 0))) : (w.setCell ⟨P, 2, none⟩ v).heap[P]? = some (.cells #[a, b, v] T (0, 0)) := by rw [heap_setCell_same _ _ _ _ _ _ h]; rfl
theorem own_set {w : World} {base e size n P i : Nat} {v u : Value} {xs : List Value} {cs : Array Value} {T : TypeId} (h : w.ownsRow base e size v n xs) (hP : w.heap[P]? = some (.cells cs T (0, 0))) (hT : T ≠ e) : (w.setCell ⟨P, i, none⟩ u).ownsRow base e size v n xs :=
  ownsRow_same h fun q cur hq _ => heap_setCell_other _ _ _ _ (fun e => by subst e; rw [hP] at hq; cases hq; exact hT rfl)
def Rws (w : World) (base : Nat) (vs : List Value) (rows : List (List Int)) : Prop :=
  vs.length = rows.length ∧ ∀ (i : Nat) (v : Value) (l : List Int), vs[i]? = some v → rows[i]? = some l → w.ownsRow base 3 1 v l.length (l.map iV)
theorem Rws.nil (w : World) (base : Nat) : Rws w base [] [] := ⟨rfl, fun i v l h => by simp at h⟩
theorem Rws.snoc {w : World} {base : Nat} {vs : List Value} {rows : List (List Int)} {v : Value} {l : List Int} (h : Rws w base vs rows) (hv : w.ownsRow base 3 1 v l.length (l.map iV)) : Rws w base (vs ++ [v]) (rows ++ [l]) := by
  refine ⟨by simp [h.1], fun i v' l' h1 h2 => ?_⟩
  by_cases hi : i < vs.length
  · rw [List.getElem?_append_left hi] at h1
    rw [List.getElem?_append_left (by have := h.1; omega)] at h2
    exact h.2 i v' l' h1 h2
  · rw [List.getElem?_append_right (by omega)] at h1
    rw [List.getElem?_append_right (by have := h.1; omega)] at h2
    obtain ⟨e1, rfl⟩ := List.getElem?_eq_some_iff.1 h1
    obtain ⟨e2, rfl⟩ := List.getElem?_eq_some_iff.1 h2
    simpa using hv
theorem Rws.same {w w' : World} {base : Nat} {vs : List Value} {rows : List (List Int)} (h : Rws w base vs rows) (hk : ∀ k cur, w.heap[k]? = some (.cells cur 3 (0, 0)) → base ≤ k → w'.heap[k]? = w.heap[k]?) : Rws w' base vs rows :=
  ⟨h.1, fun i v l h1 h2 => ownsRow_same (h.2 i v l h1 h2) hk⟩
theorem Rws.rows {w : World} {base : Nat} {v : Value} {vs : List Value} {rows : List (List Int)} (h : Rws w base vs rows) (hv : w.ownsRow base 22 1 v vs.length vs) : RowsIn (fun g => base ≤ g) w v rows := by
  have hl := h.1
  rcases hv.2 with ⟨hv', h0⟩ | ⟨g, cap, cur, hv', hb, hg, hn, hc, hs, ht⟩
  · have e : rows = [] := List.eq_nil_of_length_eq_zero (by omega)
    subst e
    exact ⟨none, 0, hv', by simp, fun h => absurd rfl h⟩
  · refine ⟨some ⟨g, 0, none⟩, cap, by rw [hv', hl], by omega, fun _ => ⟨g, 0, rfl, hb, fun i hi => ?_⟩⟩
    subst hv'
    have hi2 : i < vs.length := by omega
    refine ⟨vs[i], ?_, ?_⟩
    · rw [Nat.zero_add, hv.cellAt i (by omega), List.getElem?_eq_getElem hi2]
    · exact own_row (f := iV) (R := IntR) (h.2 i _ _ (List.getElem?_eq_getElem hi2) (List.getElem?_eq_getElem hi)) (fun _ _ => rfl)
theorem own_store {w : World} {base e n g cap i : Nat} {xs : List Value} (u : Value) (h : w.ownsRow base e 1 (.slice (some ⟨g, 0, none⟩) n cap) n xs) : (w.setCell ⟨g, i, none⟩ u).ownsRow base e 1 (.slice (some ⟨g, 0, none⟩) n cap) n (xs.set i u) := by
  refine ⟨by simpa using h.1, ?_⟩
  rcases h.2 with ⟨h', _⟩ | ⟨g', cap', cur, h', hb, hg, hn, hc, hs, ht⟩
  · cases h'
  · cases h'
    refine .inr ⟨g, cap, cur.setIfInBounds i u, rfl, hb, heap_setCell_same _ _ _ _ _ _ hg, hn, hc, by simpa using hs, ?_⟩
    rw [Array.toList_setIfInBounds, List.take_set, ht]
theorem own_free {w : World} {base e n g cap i : Nat} {xs : List Value} (h : w.ownsRow base e 1 (.slice (some ⟨g, 0, none⟩) n cap) n xs) : w.frozen? ⟨g, i, none⟩ = false := by
  obtain ⟨cur, hc⟩ := own_tag h (g := g) rfl
  exact free_box hc
theorem own_cell {w : World} {base e n g cap i : Nat} {xs : List Value} (h : w.ownsRow base e 1 (.slice (some ⟨g, 0, none⟩) n cap) n xs) (hi : i < n) : ∃ x, w.cell? ⟨g, i, none⟩ = some x := by
  rcases h.2 with ⟨h', _⟩ | ⟨g', cap', cur, h', hb, hg, hn, hc, hs, ht⟩
  · cases h'
  · cases h'
    have hi' : i < xs.length := by have := h.1; omega
    exact ⟨xs[i], by rw [h.cellAt i (by omega), List.getElem?_eq_getElem hi']⟩
theorem take_set_snoc {xs ys : List Value} {j : Nat} {u : Value} (h : xs.take j = ys) (hj : j < xs.length) : (xs.set j u).take (j + 1) = ys ++ [u] := by
  subst h
  rw [List.take_set, List.take_succ_eq_append_getElem hj]
  rw [List.set_append_right _ _ (by simp; omega)]
  congr 1
  have : j - (List.take j xs).length = 0 := by simp; omega
  rw [this]; rfl
theorem own_row' {α : Type} {w : World} {base T n : Nat} {v : Value} {l : List α} {f : α → Value} {R : Value → α → Prop} (h : w.ownsRow base T 1 v n (l.map f)) (hR : ∀ x ∈ l, R (f x) x) : Row (fun g => base ≤ g) w R v l := by
  have e : n = l.length := by have := h.1; simp at this; omega
  subst e
  exact own_row h hR
theorem one_cell_one {v : Value} (h : v.oneCell' = true) : ∀ u ∈ [v], u.oneCell' = true := fun u hu => by rw [List.mem_singleton.1 hu]; exact h
theorem le_alloc {w : World} {o : Obj} {b : Nat} (h : b < w.heap.size) : b + 1 ≤ (w.alloc o).heap.size := by rw [World.size_alloc]; omega
theorem own_blk {w w' : World} {base e size n : Nat} {v : Value} {xs : List Value} (h : w.ownsRow base e size v n xs) (hk : ∀ g, v.ownBlock = some g → w'.heap[g]? = w.heap[g]?) : w'.ownsRow base e size v n xs := by
  refine ⟨h.1, ?_⟩
  rcases h.2 with h' | ⟨g, cap, cur, h1, h2, h3, h4⟩
  · exact .inl h'
  · exact .inr ⟨g, cap, cur, h1, h2, by rw [hk g (by rw [h1]; rfl)]; exact h3, h4⟩
theorem own_lt {w : World} {base e size n g : Nat} {v : Value} {xs : List Value} (h : w.ownsRow base e size v n xs) (hg : v.ownBlock = some g) : base ≤ g ∧ g < w.heap.size := by
  have := h.lt g hg
  exact ⟨this.1, this.2⟩
theorem own_apart {w : World} {base base' e e' n n' : Nat} {v v' : Value} {xs ys : List Value} (h : w.ownsRow base e 1 v n xs) (h' : w.ownsRow base' e' 1 v' n' ys) (he : e ≠ e') : ∀ g, v.ownBlock = some g → v'.ownBlock ≠ some g := by
  intro g hg hg'
  obtain ⟨cur, hc⟩ := own_tag h hg
  obtain ⟨cur', hc'⟩ := own_tag h' hg'
  rw [hc] at hc'
  cases hc'
  exact he rfl
theorem own_blk_set {w : World} {base e n D i : Nat} {v u : Value} {xs : List Value} (h : w.ownsRow base e 1 v n xs) (hD : D < base) : (w.setCell ⟨D, i, none⟩ u).ownsRow base e 1 v n xs :=
  own_blk h fun g hg => heap_setCell_other _ _ _ _ (by have := (own_lt h hg).1; simp; omega)
theorem one_at {W : World} {b : Nat} {x : Value} {T : TypeId} (h : W.heap[b]? = some (.cells #[x] T (0, 0))) : ∀ (j : Nat) (u : Value), [x][j]? = some u → W.cell? ((⟨b, 0, none⟩ : Addr).add j) = some u := by
  intro j u hj
  match j, hj with
  | 0, hj => cases hj; exact cell_blk h rfl
theorem made_rep (v : Value) (n : Nat) (h : v.cells = #[v] := by rfl) : (madeCells v.cells (n * 1)).toList = List.replicate n v := by
  rw [h, Nat.mul_one, toList_madeCells_one]
theorem own_below {w w' : World} {b base e size n : Nat} {v : Value} {xs : List Value} (h : w.ownsRow base e size v n xs) (k : Below b w w') (hb : w.heap.size ≤ b) : w'.ownsRow base e size v n xs :=
  ownsRow_same h fun q _ hq _ => k.block q (Nat.lt_of_lt_of_le (lt_of_heap hq) hb)
theorem rep_set {α : Type} (x y : α) (j m : Nat) (hj : j < m) : (List.replicate j x ++ List.replicate (m - j) y).set j x = List.replicate (j + 1) x ++ List.replicate (m - (j + 1)) y := by
  rw [List.set_append_right _ _ (by simp), List.length_replicate, Nat.sub_self, show m - j = (m - (j + 1)) + 1 by omega, List.replicate_succ, List.set_cons_zero, List.replicate_succ', List.append_assoc]
  rfl
theorem own_other {w : World} {base base' e e' g n n' cap i : Nat} {v u : Value} {xs ys : List Value} (h : w.ownsRow base e 1 v n xs) (hg : w.ownsRow base' e' 1 (.slice (some ⟨g, 0, none⟩) n' cap) n' ys) (he : e' ≠ e) : (w.setCell ⟨g, i, none⟩ u).ownsRow base e 1 v n xs := by
  obtain ⟨cur, hc⟩ := own_tag hg (g := g) rfl
  exact own_set h hc he
theorem own_ge {w : World} {base e n g cap : Nat} {xs : List Value} (h : w.ownsRow base e 1 (.slice (some ⟨g, 0, none⟩) n cap) n xs) : base ≤ g := (h.lt g rfl).1
theorem setRow_heap {w : World} {g : Nat} {old : Array Value} {t : TypeId} (hg : w.heap[g]? = some (.cells old t (0, 0))) (cs : Array Value) : (w.setRow g cs).heap[g]? = some (.cells cs t (0, 0)) := by
  simp [World.setRow, Array.getElem?_modify, hg]
theorem setRow_other {w : World} {g k : Nat} (cs : Array Value) (h : k ≠ g) : (w.setRow g cs).heap[k]? = w.heap[k]? := by
  simp [World.setRow, Array.getElem?_modify, Ne.symm h]
theorem Below.setRow {B : Nat} {a w : World} (h : Below B a w) {g : Nat} (hg : B ≤ g) (cs : Array Value) : Below B a (w.setRow g cs) :=
  h.trans ⟨rfl, rfl, rfl, by simp, fun k hk => setRow_other cs (by omega)⟩
theorem wpList_store_blk {P : Program} {ops : Array Oper} {rest : List Oper} {o : Oper} {a : Act} {w : World} {Q : Exit → Act → World → Prop} (hgd : o.guard = none) (ty : TypeId) (x y : Operand) (ho : o.op = .store ty x y)
    (n : Nat) (hi : (P.info? ty).map (·.size) = some n) (g : Nat) (t : TypeId) (old : Array Value) (hg : w.heap[g]? = some (.cells old t (0, 0))) (hold : old.size = n)
    (cells : Array Value) (hx : a.eval x = .pointer (some ⟨g, 0, none⟩)) (hy : a.eval y = .agg cells) (hn : cells.size = n) (h1 : cells.toList.all (·.oneCell') = true)
    (h : wpList P ops Q rest (a.put o.dst undef) (w.setRow g cells)) : wpList P ops Q (o :: rest) a w := by
  subst hn
  exact wpList_store_row hgd ty x y ho g cells hx hy t old hg hi hold (by rw [← Array.all_toList]; exact h1) h
theorem wpList_load_blk {P : Program} {ops : Array Oper} {rest : List Oper} {o : Oper} {a : Act} {w : World} {Q : Exit → Act → World → Prop} (hgd : o.guard = none) (ty : TypeId) (x : Operand) (ho : o.op = .load ty x)
    (n : Nat) (hi : (P.info? ty).map (·.size) = some n) (d : TypeDesc) (hu : P.underlying ty = some d) (hd : (match d with | .struct _ | .array _ _ => true | _ => false) = true)
    (g : Nat) (hx : a.eval x = .pointer (some ⟨g, 0, none⟩)) (t : TypeId) (cs : Array Value) (hg : w.heap[g]? = some (.cells cs t (0, 0))) (hn : cs.size = n)
    (h : wpList P ops Q rest (a.put o.dst (.agg cs)) w) : wpList P ops Q (o :: rest) a w := by
  subst hn
  exact wpList_load_row hgd ty x ho g hx t cs (0, 0) d hg hu hd hi h
theorem results_cell_one {P : Program} {fn : Func} {p q : Tmp} {ty : TypeId} (h : fn.results = #[.cell p ty, .tmp q]) (tmps : Array Value) (w : World) (g : Nat) (t : TypeId) (cs : Array Value) (fr : Nat × Nat) (d : TypeDesc)
    (hp : tmps.getD p undef = .pointer (some ⟨g, 0, none⟩)) (hg : w.heap[g]? = some (.cells cs t fr))
    (hu : P.underlying ty = some d) (hd : (match d with | .struct _ | .array _ _ => true | _ => false) = true) (hi : (P.info? ty).map (·.size) = some cs.size) :
    (results fn tmps).run P w = .ok (.tuple #[.agg cs, tmps.getD q undef]) w := by
  have hp' : tmps[p]?.getD undef = .pointer (some ⟨g, 0, none⟩) := by simpa using hp
  simp [results, h, hp', asAddr, run_loadVar_row w g t ty cs fr d hg hu hd hi]
end Go.Proofs.YtfjomnhdmkbkiaaDoor.Im
