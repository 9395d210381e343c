/-
  The contracts of slices.Clone, Sort, Compact at rows of numbers; intern.Sort.
-/
import Derived.Test.YtfjomnhdmkbkiaaDoorDf2
import Derived.Test.YtfjomnhdmkbkiaaDoorDfS
import Derived.Test.YtfjomnhdmkbkiaaDoorDfH
import Derived.Sort.OwnSortedInts
import Derived.Lib.OwnBridge
namespace Go.Proofs.YtfjomnhdmkbkiaaDoor.Im
open Go.RowKit Go.Lib Go.Sort

abbrev OwnInts (w : World) (base : Nat) (v : Value) (l : List Int) : Prop := w.ownsRow base 3 1 v l.length (l.map iV)
theorem ints_cells {F : Nat → Prop} {w : World} {ad : Option Addr} {n cap : Nat} {l : List Int} (h : IntsIn F w (.slice ad n cap) l) (hn : l ≠ []) : ∃ g off, ad = some ⟨g, off, none⟩ ∧ n = l.length ∧ F g ∧ ∀ j, j < l.length → w.cell? ⟨g, off + j, none⟩ = some (.int .i64 (l.getD j 0)) := by
  obtain ⟨ad', cap', e, _, h⟩ := h
  cases e
  obtain ⟨g, off, rfl, hg, h⟩ := h hn
  refine ⟨g, off, rfl, rfl, hg, fun j hj => ?_⟩
  obtain ⟨c, hc, hr⟩ := h j hj
  rw [hc, hr]
  simp [List.getD, List.getElem?_eq_getElem hj]
theorem ints_at {F : Nat → Prop} {w : World} {ad : Option Addr} {n cap : Nat} {l : List Int} (h : IntsIn F w (.slice ad n cap) l) {i : Nat} (hi : i < l.length) : ∃ g off, ad = some ⟨g, off, none⟩ ∧ F g ∧ w.cell? ⟨g, off + i, none⟩ = some (.int .i64 l[i]) := by
  obtain ⟨ad', cap', e, _, h⟩ := h
  cases e
  obtain ⟨g, off, rfl, hg, h⟩ := h (by intro e; subst e; simp at hi)
  obtain ⟨c, hc, hr⟩ := h i hi
  exact ⟨g, off, rfl, hg, hr ▸ hc⟩
def ClonePost (w : World) (l : List Int) (e : Ending) (w' : World) : Prop := ∃ v', e = .returned v' ∧ OwnInts w' w.heap.size v' l ∧ Below w.heap.size w w'
theorem clone_any {F : Nat → Prop} {w : World} {v : Value} {l : List Int} (hl : IntsIn F w v l) (hbig : l.length * 8 ≤ 140737488355328) :
    Calls Tryd.prog 71 #[v] w (ClonePost w l) := by
  have hl' := hl
  obtain ⟨ad, cap, rfl, hm, hr⟩ := hl
  by_cases h : l = []
  · subst h
    cases ad with
    | none => exact (Any.slices_Clone_int_nil Tryd.laysClone 0 cap w).mono fun e w' ⟨h1, h2⟩ => ⟨_, h1, by subst h2; exact World.ownsRow_nil _ _ _ _, by subst h2; exact Below.refl _ _⟩
    | some a => exact (Any.slices_Clone_int_zero Tryd.laysClone a cap w).mono fun e w' ⟨v', h1, h2, _, h3⟩ => ⟨_, h1, h2, h3⟩
  · obtain ⟨g, off, rfl, _, _, hc⟩ := ints_cells hl' h
    exact (Any.slices_Clone_int Tryd.laysClone g off l.length cap l w (Nat.le_refl _) hbig hc).mono fun e w' ⟨v', h1, h2, _, h3⟩ => ⟨_, h1, by rw [List.take_length] at h2; exact h2, h3⟩
def SortPost (w : World) (base : Nat) (v : Value) (l : List Int) (e : Ending) (w' : World) : Prop := e = .returned (.tuple #[]) ∧ OwnInts w' base v l ∧ Below base w w' ∧ w.heap.size ≤ w'.heap.size
theorem sort_any {w : World} {base : Nat} {v : Value} {l : List Int} (hl : OwnInts w base v l) (hb : base ≤ w.heap.size) (hs : l.length < 4611686018427387904) :
    Calls Tryd.prog 89 #[v] w (SortPost w base v (l.mergeSort fun x y => decide (x ≤ y))) := by
  have hl' := hl
  by_cases hv : v = .slice none 0 0
  · subst hv
    have h0 : l = [] := by
      rcases hl.2 with ⟨_, h⟩ | ⟨_, _, _, h, _⟩
      · exact List.eq_nil_of_length_eq_zero h
      · cases h
    subst h0
    exact (Any.slices_Sort_int_none Tryd.laysSort none 0 w).mono fun e w' ⟨h1, h2⟩ => ⟨h1, by subst h2; simpa using hl', by subst h2; exact Below.refl _ _, by subst h2; exact Nat.le_refl _⟩
  · obtain ⟨g, cap, rfl, hbg, hgl, hncap, hcm, hlen, hH⟩ := Lib.holds_of_ownsRow hl hv
    refine (Any.slices_Sort_int Tryd.laysSort g 0 cap l w hH hgl hs).mono fun e w' ⟨h1, n, os, h2⟩ => ?_
    subst h2
    have hml : (l.mergeSort fun x y => decide (x ≤ y)).length = l.length := List.length_mergeSort l
    refine ⟨h1, ?_, (Below.refl base w).grown (grownBy_sortedI _) hb (fun k hk => by cases hk; exact hbg), (grownBy_sortedI _).size⟩
    rcases hl'.2 with ⟨h0, _⟩ | ⟨g', cap', cur, hv', hbase, hbk, k1, k2, k3, k4⟩
    · cases h0
    · cases hv'
      have := ownsRow_sortedI (n := n) (os := os) (ts := l.mergeSort fun x y => decide (x ≤ y)) hml hbase hbk k1 k2 k3
      unfold OwnInts
      rw [hml]
      exact this
def CompPost (w : World) (base : Nat) (l : List Int) (e : Ending) (w' : World) : Prop := ∃ v', e = .returned v' ∧ OwnInts w' base v' l ∧ Below base w w' ∧ w.heap.size ≤ w'.heap.size
theorem compact_any {w : World} {base : Nat} {v : Value} {l : List Int} (hl : OwnInts w base v l) (hs : l.length ≤ 9223372036854775807) :
    Calls Tryd.prog 90 #[v] w (CompPost w base (compact l)) := by
  have hl' := hl
  by_cases hv : v = .slice none 0 0
  · subst hv
    have h0 : l = [] := by
      rcases hl.2 with ⟨_, h⟩ | ⟨_, _, _, h, _⟩
      · exact List.eq_nil_of_length_eq_zero h
      · cases h
    subst h0
    exact (Any.slices_Compact_int_empty Tryd.laysCompact none 0 w).mono fun e w' ⟨h1, h2⟩ => ⟨_, h1, by subst h2; simpa [compact, compactUpTo] using hl', by subst h2; exact Below.refl _ _, by subst h2; exact Nat.le_refl _⟩
  · obtain ⟨g, cap, rfl, hbg, hgl, hncap, hcm, hlen, hH⟩ := Lib.holds_of_ownsRow hl hv
    refine (Any.slices_Compact_int Tryd.laysCompact g 0 cap l w hH hs hncap).mono fun e w' ⟨h1, q, h2⟩ => ?_
    subst h2
    have hle := Lib.compact_length_le l
    have hc := Lib.ownsRow_putRow (q := q) (k := (compact l).length) (ys := compact l ++ List.replicate (l.length - (compact l).length) 0) hl' (by simp; omega) hle
    rw [List.take_left] at hc
    exact ⟨_, h1, hc, Lib.below_putRow (Below.refl _ _) hbg, by simp [putRow, mapBlock, Sort.ahead]⟩

set_option maxRecDepth 100000 in
set_option maxHeartbeats 2000000 in
/-- intern.Sort: the numbers of a row, rising, each once -/
theorem isort_any {F : Nat → Prop} {w : World} {v : Value} {l : List Int} (hl : IntsIn F w v l) (hbig : l.length * 8 ≤ 140737488355328) :
    Calls Tryd.prog 75 #[v] w (ClonePost w (sortU l)) := by
  have h1 := clone_any hl hbig
  have hlen : (l.mergeSort fun x y => decide (x ≤ y)).length = l.length := List.length_mergeSort l
  have HB := hid hbig
  have HLN := hid hlen
  clear hl hbig hlen
  go_enter Tryd.func75, Tryd.ntmps75
  go_upto_region 2 with (go_at_call 71; refine h1.mono ?_; rintro e w1 ⟨v1, rfl, ho1, hb1⟩; have HO1 := hid ho1; have HB1 := hid hb1; clear ho1 hb1)
  have h2 := sort_any HO1.out HB1.out.size (by have := HB.out; omega)
  clear h1
  go_upto_region 3 with (go_at_call 89; refine h2.mono ?_; rintro e w2 ⟨rfl, ho2, hb2, hs2⟩; have HO2 := hid ho2; have HB2 := hid (HB1.out.trans hb2); clear ho2 hb2)
  have h3 := compact_any HO2.out (by have := HLN.out; have := HB.out; omega)
  rw [sort_compact] at h3
  clear h2
  go_wp2_with (go_at_call 90; refine h3.mono ?_; rintro e w3 ⟨v3, rfl, ho3, hb3, hs3⟩)
  go_ret
  exact ⟨v3, rfl, ho3, HB2.out.trans hb3⟩
end Go.Proofs.YtfjomnhdmkbkiaaDoor.Im
