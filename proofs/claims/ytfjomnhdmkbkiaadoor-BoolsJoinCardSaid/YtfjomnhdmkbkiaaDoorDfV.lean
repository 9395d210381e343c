/-
  The edges told apart by the state that they leave: rows of edges in a row, one of which grows.
-/
import Derived.Test.YtfjomnhdmkbkiaaDoorDfT
namespace Go.Proofs.YtfjomnhdmkbkiaaDoor.Im
open Go.RowKit Go.Lib

def leaving (es : List Edge) (x : Nat) : List Edge := es.filter fun e => decide (e.fr = (x : Int))
theorem leaving_snoc (es : List Edge) (e : Edge) (x : Nat) : leaving (es ++ [e]) x = leaving es x ++ (if e.fr = (x : Int) then [e] else []) := by
  unfold leaving
  rw [List.filter_append]
  by_cases h : e.fr = (x : Int)
  · rw [if_pos h]; simp [h]
  · rw [if_neg h]; simp [h]
theorem leaving_len (es : List Edge) (x : Nat) : (leaving es x).length ≤ es.length := List.length_filter_le _ _
/-- m rows of edges, in a row at block gf; the rows lie from block Bs on, each in a block of its own -/
structure FromAt (w : World) (Bs gf m : Nat) (vs : List Value) (es : List Edge) : Prop where
  arr : w.ownsRow gf 23 1 (.slice (some ⟨gf, 0, none⟩) m m) m vs
  rows : ∀ (x : Nat) (v : Value), vs[x]? = some v → OwnEdges w Bs v (leaving es x)
  apart : ∀ (x y : Nat) (v v' : Value), x ≠ y → vs[x]? = some v → vs[y]? = some v' → ∀ g, v.ownBlock = some g → v'.ownBlock ≠ some g
theorem FromAt.start {w : World} {Bs gf m : Nat} (h : w.ownsRow gf 23 1 (.slice (some ⟨gf, 0, none⟩) m m) m (List.replicate m (.slice none 0 0))) : FromAt w Bs gf m (List.replicate m (.slice none 0 0)) [] := by
  have hv : ∀ (x : Nat) (v : Value), (List.replicate m (Value.slice none 0 0))[x]? = some v → v = .slice none 0 0 := fun x v h => by
    rw [List.getElem?_replicate] at h
    split at h
    · cases h; rfl
    · cases h
  refine ⟨h, fun x v h => ?_, fun x y v v' _ h1 h2 g hg => ?_⟩
  · rw [hv x v h]; exact World.ownsRow_nil _ _ _ _
  · rw [hv x v h1] at hg; simp [Value.ownBlock] at hg
theorem FromAt.keep {w w' : World} {Bs gf m : Nat} {vs : List Value} {es : List Edge} (h : FromAt w Bs gf m vs es) (hk : ∀ g, g = gf ∨ Bs ≤ g → g < w.heap.size → w'.heap[g]? = w.heap[g]?) : FromAt w' Bs gf m vs es :=
  ⟨own_blk h.arr fun g hg => by cases hg; exact hk gf (.inl rfl) (own_lt h.arr rfl).2, fun x v hx => own_blk (h.rows x v hx) fun g hg => hk g (.inr (own_lt (h.rows x v hx) hg).1) (own_lt (h.rows x v hx) hg).2, h.apart⟩
theorem FromAt.later {w w' : World} {Bs gf m : Nat} {vs : List Value} {es : List Edge} (h : FromAt w Bs gf m vs es) (hk : Below w.heap.size w w') : FromAt w' Bs gf m vs es := h.keep fun g _ hg => hk.block g hg
/-- one row grows, and is stored back -/
theorem FromAt.grow {w w1 w2 : World} {Bs gf m x : Nat} {vs : List Value} {es : List Edge} {e : Edge} {v v' : Value} (h : FromAt w Bs gf m vs es) (hx : x < m) (hv : vs[x]? = some v) (he : e.fr = (x : Int)) (h1 : Below w.heap.size w w1) (hg : w1.grownBy w2 v.ownBlock)
    (ho : OwnEdges w2 Bs v' (leaving es x ++ [e])) (hat : v'.ownBlock = v.ownBlock ∨ v'.ownBlock = some w1.heap.size) : FromAt (w2.setCell ⟨gf, x, none⟩ v') Bs gf m (vs.set x v') (es ++ [e]) := by
  have hvl : vs.length = m := by have := h.arr.1; simpa using this
  have harr := own_tag h.arr (g := gf) rfl
  obtain ⟨cur, hcur⟩ := harr
  have hgfl := lt_of_heap hcur
  have hvg : v.ownBlock ≠ some gf := fun e' => by
    obtain ⟨cur', hc'⟩ := own_tag (h.rows x v hv) e'
    rw [hcur] at hc'
    cases hc'
  have harr2 : w2.ownsRow gf 23 1 (.slice (some ⟨gf, 0, none⟩) m m) m vs := own_blk h.arr fun g hg' => by
    cases hg'
    exact (hg.block gf (Nat.lt_of_lt_of_le hgfl h1.size) (fun e' => hvg e'.symm)).trans (h1.block gf hgfl)
  obtain ⟨cur2, hcur2⟩ := own_tag harr2 (g := gf) rfl
  refine ⟨own_store v' harr2, fun y u hy => ?_, fun y z u u' hyz hy hz g hgu => ?_⟩
  · rw [leaving_snoc]
    by_cases hxy : x = y
    · subst hxy
      rw [List.getElem?_set_self (by omega)] at hy
      cases hy
      rw [if_pos he]
      exact own_set6 ho hcur2 (by decide)
    · rw [List.getElem?_set_ne hxy] at hy
      rw [if_neg (by rw [he]; omega), List.append_nil]
      have hu := h.rows y u hy
      have hu2 : OwnEdges w2 Bs u (leaving es y) := own_blk hu fun g hg' => (hg.block g (Nat.lt_of_lt_of_le (own_lt hu hg').2 h1.size) (fun e' => h.apart x y v u hxy hv hy g e'.symm hg')).trans (h1.block g (own_lt hu hg').2)
      exact own_set6 hu2 hcur2 (by decide)
  · have hold : ∀ (a : Nat) (q : Value), a ≠ x → (vs.set x v')[a]? = some q → vs[a]? = some q := fun a q ha hq => by rw [List.getElem?_set_ne (Ne.symm ha)] at hq; exact hq
    by_cases hyx : y = x
    · subst hyx
      rw [List.getElem?_set_self (by omega)] at hy
      cases hy
      have hz' := hold z u' (Ne.symm hyz) hz
      intro hgu'
      rcases hat with h' | h'
      · rw [h'] at hgu
        exact h.apart y z v u' hyz hv hz' g hgu hgu'
      · rw [h'] at hgu
        cases hgu
        have := (own_lt (h.rows z u' hz') hgu').2
        have := h1.size
        omega
    · have hy' := hold y u hyx hy
      by_cases hzx : z = x
      · subst hzx
        rw [List.getElem?_set_self (by omega)] at hz
        cases hz
        intro hgu'
        rcases hat with h' | h'
        · rw [h'] at hgu'
          exact h.apart z y v u (Ne.symm hyz) hv hy' g hgu' hgu
        · rw [h'] at hgu'
          cases hgu'
          have := (own_lt (h.rows y u hy') hgu).2
          have := h1.size
          omega
      · exact h.apart y z u u' hyz hy' (hold z u' hzx hz) g hgu
/-- .. as the callees read it -/
theorem FromAt.reads {w : World} {Bs gf m : Nat} {vs : List Value} {es : List Edge} (h : FromAt w Bs gf m vs es) (hgf : gf ≤ Bs) (hm : m ≤ maxLen) (hes : es.length ≤ maxLen) : FromIn (fun g => gf ≤ g ∧ g < w.heap.size) w (.slice (some ⟨gf, 0, none⟩) m m) ((List.range m).map (leaving es)) := by
  have hvl : vs.length = m := by have := h.arr.1; simpa using this
  refine ⟨some ⟨gf, 0, none⟩, m, by simp, by simpa using hm, fun _ => ⟨gf, 0, rfl, ⟨Nat.le_refl _, (own_lt h.arr rfl).2⟩, fun i hi => ?_⟩⟩
  have hi' : i < m := by simpa using hi
  have hiv : i < vs.length := by omega
  refine ⟨vs[i], by rw [Nat.zero_add, h.arr.cellAt i (by omega), List.getElem?_eq_getElem hiv], ?_⟩
  have := edges_of_own (h.rows i vs[i] (List.getElem?_eq_getElem hiv)) (Nat.le_trans (leaving_len _ _) hes)
  simp only [List.getElem_map, List.getElem_range]
  exact EdgesIn.frame this (fun g hg => ⟨Nat.le_trans hgf hg.1, hg.2⟩) (fun _ _ _ => rfl)
end Go.Proofs.YtfjomnhdmkbkiaaDoor.Im
