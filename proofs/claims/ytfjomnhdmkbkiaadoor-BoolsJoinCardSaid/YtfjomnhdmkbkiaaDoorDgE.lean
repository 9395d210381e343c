/-
  Sets of numbers as maps to nothing: look-up, store, length at the operation. What an automaton of many ways reaches, step by step.
-/
import Derived.Test.YtfjomnhdmkbkiaaDoorDfC
import Derived.Test.YtfjomnhdmkbkiaaDoorDf5
namespace Go.Proofs.YtfjomnhdmkbkiaaDoor.Im
open Go.Maps Go.RowKit

/-- block b is a map whose keys are the numbers ks, at most n of them -/
def SetAt (P : Program) (K : TypeId) (w : World) (b n : Nat) (ks : List Int) : Prop :=
  ∃ D : DataW Unit, w.ownsMap P K unitElem b n D ∧ IsMap D ∧ ∀ x l, keyOf P K (.int .i64 x) = some l → has D l = decide (x ∈ ks)
theorem SetAt.made (P : Program) (K : TypeId) (w : World) : SetAt P K (w.alloc (.map #[] 0)) w.heap.size 0 [] :=
  ⟨_, World.ownsMap_made w P K unitElem, isMap_empty, fun x l _ => by simp [has]⟩
theorem SetAt.lt {P : Program} {K : TypeId} {w : World} {b n : Nat} {ks : List Int} (h : SetAt P K w b n ks) : b < w.heap.size := by
  obtain ⟨D, h1, _⟩ := h; exact h1.lt
theorem SetAt.block {P : Program} {K : TypeId} {w w' : World} {b n : Nat} {ks : List Int} (h : SetAt P K w b n ks) (hb : w'.heap[b]? = w.heap[b]?) : SetAt P K w' b n ks := by
  obtain ⟨D, ⟨es, clock, h1, h2⟩, h3⟩ := h
  exact ⟨D, ⟨es, clock, hb.trans h1, h2⟩, h3⟩
theorem SetAt.mono {P : Program} {K : TypeId} {w : World} {b n m : Nat} {ks : List Int} (h : SetAt P K w b n ks) (hm : n ≤ m) : SetAt P K w b m ks := by
  obtain ⟨D, ⟨es, clock, h1, h2, h3, h4⟩, h5⟩ := h
  exact ⟨D, ⟨es, clock, h1, h2, Nat.le_trans h3 hm, h4⟩, h5⟩
theorem SetAt.alike {P : Program} {K : TypeId} {w : World} {b n : Nat} {ks ks' : List Int} (h : SetAt P K w b n ks) (he : ∀ x, x ∈ ks ↔ x ∈ ks') : SetAt P K w b n ks' := by
  obtain ⟨D, h1, h2, h3⟩ := h
  exact ⟨D, h1, h2, fun x l hl => (h3 x l hl).trans (decide_eq_decide.2 (he x))⟩
theorem SetAt.notRow {P : Program} {K : TypeId} {w : World} {b n : Nat} {ks : List Int} (h : SetAt P K w b n ks) {cs : Array Value} {T : TypeId} {x : Nat × Nat} {g : Nat} (hg : w.heap[g]? = some (.cells cs T x)) : g ≠ b := by
  obtain ⟨D, ⟨es, clock, h1, _⟩, _⟩ := h
  rintro rfl
  rw [h1] at hg
  cases hg
theorem wf_few {x : Int} (h0 : 0 ≤ x) (h1 : x < 4097) : (Lit.int .i64 x).wf = true := by
  simp [Lit.wf, IntKind.min, IntKind.max, IntKind.signed, IntKind.bits]
  omega
section
variable {P : Program} (w : World) {ops : Array Oper} {rest : List Oper} {o : Oper} {a : Act} {Q : Exit → Act → World → Prop}
theorem wpList_set_has (hg : o.guard = none) (m x : Operand) (t : TypeId) (hop : o.op = Op.lookup t m x true) (K E : TypeId) (hk : P.underlying K = some (.int .i64)) (ht : P.underlying t = some (.map K E)) (hz : (zeroValue E).run P w = .ok (.agg #[]) w)
    (b n : Nat) (ks : List Int) (hm : a.eval m = .map (some b)) (hown : SetAt P K w b n ks) (y : Int) (hx : a.eval x = .int .i64 y) (hy : (Lit.int .i64 y).wf = true)
    (hK : wpList P ops Q rest (a.put o.dst (.tuple #[.agg #[], .bool (decide (y ∈ ks))])) w) : wpList P ops Q (o :: rest) a w := by
  obtain ⟨D, h1, _, h3⟩ := hown
  refine wpList_lookup_own_unit w hg m x t hop K E (int_keyed hk) ht hz b _ D hm h1 _ _ hx (keyOf_int_mk hk hy) ?_
  rw [h3 y _ (keyOf_int_mk hk hy)]
  exact hK
theorem wpList_set_put (hg : o.guard = none) (m x v : Operand) (t : TypeId) (hop : o.op = Op.mapUpdate t m x v) (K E : TypeId) (hk : P.underlying K = some (.int .i64)) (ht : P.underlying t = some (.map K E))
    (b n : Nat) (ks : List Int) (hm : a.eval m = .map (some b)) (hown : SetAt P K w b n ks) (hn : n < maxLen) (y : Int) (hx : a.eval x = .int .i64 y) (hv : a.eval v = .agg #[]) (hy : (Lit.int .i64 y).wf = true)
    (hK : ∀ w', SetAt P K w' b (n + 1) (ks ++ [y]) → w.mapTurned w' b → wpList P ops Q rest (a.put o.dst undef) w') : wpList P ops Q (o :: rest) a w := by
  obtain ⟨D, h1, h2, h3⟩ := hown
  have law := int_keyed hk
  have hkey := keyOf_int_mk hk hy
  refine wpList_mapUpdate_in w hg m x v t hop K E law ht unitElem b _ D hm h1 hn _ _ _ hx hv hkey (.agg []) [] unitElem_mk fun w' g1 g2 => hK w' ⟨_, g1, h2.put _ _, fun z l' hl' => ?_⟩ g2
  by_cases e : z = y
  · subst e
    rw [hkey] at hl'
    cases hl'
    rw [has_put_same h2 (law.key hkey)]; simp
  · have hne : l' ≠ .int .i64 y := fun e' => e (by
      have := law.inj hl' (e' ▸ hkey)
      injection this)
    rw [has_put_other hne, h3 z l' hl']; simp [e]
theorem size_none {D : DataW Unit} (h : IsMap D) (hs : size D = 0) (l : Lit) : has D l = false := by
  obtain ⟨es, rfl⟩ := h
  unfold size at hs
  have : es = [] := List.eq_nil_of_length_eq_zero hs
  subst this
  simp [has]
theorem wpList_set_len (hw : Region.wanted o (yielded ops a.tmps) = true) (m : Operand) (t : TypeId) (hop : o.op = Op.call { callee := Callee.builtin Builtin.len, args := #[m], argTypes := #[t] }) (K E : TypeId) (ht : P.underlying t = some (.map K E))
    (b n : Nat) (ks : List Int) (hm : a.eval m = .map (some b)) (hown : SetAt P K w b n ks)
    (hK : ∀ s : Nat, s ≤ n → (s = 0 → ∀ x l, keyOf P K (.int .i64 x) = some l → x ∉ ks) → wpList P ops Q rest (a.put o.dst (.int .i64 s)) w) : wpList P ops Q (o :: rest) a w := by
  obtain ⟨D, h1, h2, h3⟩ := hown
  refine BigFrame.wpList_want hw fun K' hK' => ?_
  unfold Oper.wp
  simp [execOp, hop, resolve, invoke, builtin, hm, h1.len ht o.type, Result.andThen]
  refine hK' _ _ (hK _ h1.size_le fun hs x l hl hx => ?_)
  have := h3 x l hl
  rw [size_none h2 hs, decide_eq_true hx] at this
  cases this
end
theorem reachN_nil (es : List Edge) : ∀ (w : List B), reachN es [] w = []
  | [] => rfl
  | c :: w => by
    rw [reachN]
    have : stepN es [] c = [] := by unfold stepN; simp
    rw [this]
    exact reachN_nil es w
theorem reachN_app (es : List Edge) : ∀ (S : List Int) (u v : List B), reachN es S (u ++ v) = reachN es (reachN es S u) v
  | _, [], _ => rfl
  | S, c :: u, v => reachN_app es (stepN es S c) u v
theorem reachN_snoc (es : List Edge) (S : List Int) (l : List B) (k : Nat) (hk : k < l.length) : reachN es S (l.take (k + 1)) = stepN es (reachN es S (l.take k)) l[k] := by
  rw [List.take_succ_eq_append_getElem hk, reachN_app]; rfl
theorem reachN_end (es : List Edge) (S : List Int) (l : List B) (k : Nat) (h : reachN es S (l.take k) = []) : reachN es S l = [] := by
  have := reachN_app es S (l.take k) (l.drop k)
  rw [List.take_append_drop, h, reachN_nil] at this
  exact this
theorem stepN_snoc_no (es : List Edge) (S : List Int) (c : B) (k : Nat) (hk : k < es.length) (h : (decide (es[k].fr ∈ S) && hasS es[k].st c.toNat) = false) : stepN (es.take (k + 1)) S c = stepN (es.take k) S c := by
  unfold stepN
  rw [List.take_succ_eq_append_getElem hk, List.filter_append, List.map_append]
  have : List.filter (fun e => decide (e.fr ∈ S) && hasS e.st c.toNat) [es[k]] = [] := by simp only [List.filter_cons, h]; rfl
  rw [this]
  simp
theorem stepN_snoc_yes (es : List Edge) (S : List Int) (c : B) (k : Nat) (hk : k < es.length) (h : (decide (es[k].fr ∈ S) && hasS es[k].st c.toNat) = true) : stepN (es.take (k + 1)) S c = stepN (es.take k) S c ++ [es[k].dst] := by
  unfold stepN
  rw [List.take_succ_eq_append_getElem hk, List.filter_append, List.map_append]
  have : List.filter (fun e => decide (e.fr ∈ S) && hasS e.st c.toNat) [es[k]] = [es[k]] := by simp only [List.filter_cons, h]; rfl
  rw [this]
  rfl
end Go.Proofs.YtfjomnhdmkbkiaaDoor.Im
