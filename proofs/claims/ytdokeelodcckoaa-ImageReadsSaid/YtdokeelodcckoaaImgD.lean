/-
  How automatons and transducers lie in memory: what a slice, a slice of slices reads as, in blocks of which F holds.
-/
import Derived.Test.YtdokeelodcckoaaImgW
namespace Go.Proofs.Ytdokeelodcckoaa.Im
open Go.RowKit Go.Lib

/-- the elements from an address on -/
def RowAt {α : Type} (F : Nat → Prop) (w : World) (R : Value → α → Prop) (ad : Option Addr) (l : List α) : Prop :=
  l ≠ [] → ∃ g off, ad = some ⟨g, off, none⟩ ∧ F g ∧ ∀ i (h : i < l.length), ∃ c, w.cell? ⟨g, off + i, none⟩ = some c ∧ R c l[i]
def Row {α : Type} (F : Nat → Prop) (w : World) (R : Value → α → Prop) (v : Value) (l : List α) : Prop :=
  ∃ ad cap, v = .slice ad l.length cap ∧ l.length ≤ maxLen ∧ RowAt F w R ad l
theorem cell_heap {w w' : World} {g o : Nat} (h : w'.heap[g]? = w.heap[g]?) : w'.cell? ⟨g, o, none⟩ = w.cell? ⟨g, o, none⟩ := World.cell?_of_block h
theorem RowAt.frame {α : Type} {F F' : Nat → Prop} {w w' : World} {R R' : Value → α → Prop} {ad : Option Addr} {l : List α} (h : RowAt F w R ad l) (hF : ∀ g, F g → F' g) (hw : ∀ g, F g → g < w.heap.size → w'.heap[g]? = w.heap[g]?) (hR : ∀ c x, x ∈ l → R c x → R' c x) : RowAt F' w' R' ad l := by
  intro hl
  obtain ⟨g, off, h1, h2, h3⟩ := h hl
  refine ⟨g, off, h1, hF g h2, fun i hi => ?_⟩
  obtain ⟨c, hc, hr⟩ := h3 i hi
  exact ⟨c, (cell_heap (hw g h2 (World.block_lt_of_cell? w _ hc))).trans hc, hR c _ (List.getElem_mem hi) hr⟩
theorem Row.frame {α : Type} {F F' : Nat → Prop} {w w' : World} {R R' : Value → α → Prop} {v : Value} {l : List α} (h : Row F w R v l) (hF : ∀ g, F g → F' g) (hw : ∀ g, F g → g < w.heap.size → w'.heap[g]? = w.heap[g]?) (hR : ∀ c x, x ∈ l → R c x → R' c x) : Row F' w' R' v l := by
  obtain ⟨ad, cap, h1, h2, h3⟩ := h
  exact ⟨ad, cap, h1, h2, h3.frame hF hw hR⟩
theorem RowAt.at' {α : Type} {F : Nat → Prop} {w : World} {R : Value → α → Prop} {ad : Option Addr} {l : List α} (h : RowAt F w R ad l) {i : Nat} (hi : i < l.length) :
    ∃ g off, ad = some ⟨g, off, none⟩ ∧ F g ∧ ∃ c, w.cell? ⟨g, off + i, none⟩ = some c ∧ R c l[i] := by
  obtain ⟨g, off, h1, h2, h3⟩ := h (by intro e; subst e; simp at hi)
  exact ⟨g, off, h1, h2, h3 i hi⟩
abbrev IntR (c : Value) (x : Int) : Prop := c = .int .i64 x
abbrev BoolR (c : Value) (x : Bool) : Prop := c = .bool x
abbrev StrR (c : Value) (x : List B) : Prop := c = .string ⟨x.toArray⟩
abbrev IntsIn (F : Nat → Prop) (w : World) : Value → List Int → Prop := Row F w IntR
abbrev BoolsIn (F : Nat → Prop) (w : World) : Value → List Bool → Prop := Row F w BoolR
abbrev StrsIn (F : Nat → Prop) (w : World) : Value → List (List B) → Prop := Row F w StrR
abbrev RowsIn (F : Nat → Prop) (w : World) : Value → List (List Int) → Prop := Row F w (IntsIn F w)
abbrev TextsIn (F : Nat → Prop) (w : World) : Value → List (List (List B)) → Prop := Row F w (StrsIn F w)
theorem IntsIn.frame {F F' : Nat → Prop} {w w' : World} {v : Value} {l : List Int} (h : IntsIn F w v l) (hF : ∀ g, F g → F' g) (hw : ∀ g, F g → g < w.heap.size → w'.heap[g]? = w.heap[g]?) : IntsIn F' w' v l := Row.frame h hF hw fun _ _ _ h => h
theorem BoolsIn.frame {F F' : Nat → Prop} {w w' : World} {v : Value} {l : List Bool} (h : BoolsIn F w v l) (hF : ∀ g, F g → F' g) (hw : ∀ g, F g → g < w.heap.size → w'.heap[g]? = w.heap[g]?) : BoolsIn F' w' v l := Row.frame h hF hw fun _ _ _ h => h
theorem StrsIn.frame {F F' : Nat → Prop} {w w' : World} {v : Value} {l : List (List B)} (h : StrsIn F w v l) (hF : ∀ g, F g → F' g) (hw : ∀ g, F g → g < w.heap.size → w'.heap[g]? = w.heap[g]?) : StrsIn F' w' v l := Row.frame h hF hw fun _ _ _ h => h
theorem RowsIn.frame {F F' : Nat → Prop} {w w' : World} {v : Value} {l : List (List Int)} (h : RowsIn F w v l) (hF : ∀ g, F g → F' g) (hw : ∀ g, F g → g < w.heap.size → w'.heap[g]? = w.heap[g]?) : RowsIn F' w' v l := Row.frame h hF hw fun _ _ _ h => IntsIn.frame h hF hw
theorem TextsIn.frame {F F' : Nat → Prop} {w w' : World} {v : Value} {l : List (List (List B))} (h : TextsIn F w v l) (hF : ∀ g, F g → F' g) (hw : ∀ g, F g → g < w.heap.size → w'.heap[g]? = w.heap[g]?) : TextsIn F' w' v l := Row.frame h hF hw fun _ _ _ h => StrsIn.frame h hF hw
structure DfaIn (F : Nat → Prop) (w : World) (a b c : Value) (d : Dfa) : Prop where
  cls : IntsIn F w a d.cls
  next : RowsIn F w b d.next
  fin : BoolsIn F w c d.fin
structure SqIn (F : Nat → Prop) (w : World) (f a b c d : Value) (q : Sq) : Prop where
  front : StrR f q.front
  next : RowsIn F w a q.next
  outs : TextsIn F w b q.outs
  fin : BoolsIn F w c q.fin
  tail : StrsIn F w d q.tail
theorem DfaIn.frame {F F' : Nat → Prop} {w w' : World} {a b c : Value} {d : Dfa} (h : DfaIn F w a b c d) (hF : ∀ g, F g → F' g) (hw : ∀ g, F g → g < w.heap.size → w'.heap[g]? = w.heap[g]?) : DfaIn F' w' a b c d :=
  ⟨h.cls.frame hF hw, h.next.frame hF hw, h.fin.frame hF hw⟩
theorem SqIn.frame {F F' : Nat → Prop} {w w' : World} {f a b c d : Value} {q : Sq} (h : SqIn F w f a b c d q) (hF : ∀ g, F g → F' g) (hw : ∀ g, F g → g < w.heap.size → w'.heap[g]? = w.heap[g]?) : SqIn F' w' f a b c d q :=
  ⟨h.front, h.next.frame hF hw, h.outs.frame hF hw, h.fin.frame hF hw, h.tail.frame hF hw⟩
/-- the cells of a block known as a whole -/
theorem cell_blk {w : World} {g i : Nat} {cs : Array Value} {T : TypeId} {v : Value} (h : w.heap[g]? = some (.cells cs T (0, 0))) (hv : cs[i]? = some v) : w.cell? ⟨g, i, none⟩ = some v := (cell_of_row _ _ i _ _ _ h).trans hv
end Go.Proofs.Ytdokeelodcckoaa.Im
