/-
  For dfa.Back: an array of sets in memory; what the walk over the classes makes of it.
-/
import Derived.Test.YtfjomnhdmkbkiaaDoorDfY
import Derived.Test.YtfjomnhdmkbkiaaDoorDgA
namespace Go.Proofs.YtfjomnhdmkbkiaaDoor.Im
open Go.RowKit Go.Lib Go.Maps Go.Shelf

/-! the array -/
abbrev ArrIn (W : World) (B : Nat) (l : List Se) : Prop := W.heap[B]? = some (.cells (flat l).toArray 85 (0, 0))
def zeros : List Se := List.replicate 1024 Se.none
theorem zArr : Tryd.zeroCells85 = (flat zeros).toArray := by kernel_rfl
theorem ArrIn.cells {W : World} {B : Nat} {l : List Se} (h : ArrIn W B l) {j : Nat} (hj : j < l.length) :
    W.cell? ⟨B, j * 4, none⟩ = some (.int .u64 l[j].a) ∧ W.cell? ⟨B, j * 4 + 1, none⟩ = some (.int .u64 l[j].b) ∧ W.cell? ⟨B, j * 4 + 2, none⟩ = some (.int .u64 l[j].c) ∧ W.cell? ⟨B, j * 4 + 3, none⟩ = some (.int .u64 l[j].d) := by
  have key : ∀ i, W.cell? ⟨B, i, none⟩ = (flat l)[i]? := fun i => by rw [cell_of_row _ _ i _ _ _ h]; simp
  refine ⟨?_, ?_, ?_, ?_⟩
  · rw [key]; exact flat_get 0 (by omega) l j hj
  · rw [key]; exact flat_get 1 (by omega) l j hj
  · rw [key]; exact flat_get 2 (by omega) l j hj
  · rw [key]; exact flat_get 3 (by omega) l j hj
theorem arr_set {W : World} {B i : Nat} {cs : List Value} {T : TypeId} (h : W.heap[B]? = some (.cells cs.toArray T (0, 0))) (v : Value) : (W.setCell ⟨B, i, none⟩ v).heap[B]? = some (.cells (cs.set i v).toArray T (0, 0)) := by
  simp [World.setCell, h, Array.getElem?_modify]
theorem ArrIn.store {W : World} {B : Nat} {l : List Se} (h : ArrIn W B l) {j : Nat} (hj : j < l.length) (u : Se) :
    ArrIn ((((W.setCell ⟨B, j * 4, none⟩ (.int .u64 u.a)).setCell ⟨B, j * 4 + 1, none⟩ (.int .u64 u.b)).setCell ⟨B, j * 4 + 2, none⟩ (.int .u64 u.c)).setCell ⟨B, j * 4 + 3, none⟩ (.int .u64 u.d)) B (l.set j u) := by
  unfold ArrIn
  rw [← flat_set u l j hj]
  exact arr_set (arr_set (arr_set (arr_set h _) _) _) _
/-- the part of a whole array -/
theorem flat_part {l : List Se} {j : Nat} (hj : j < l.length) : (flat l).toArray.extract (j * 4) (j * 4 + 4) = l[j].cs := by
  have e : ((flat l).toArray.extract (j * 4) (j * 4 + 4)).toList = l[j].cs.toList := by
    rw [Array.toList_extract]
    simp only [List.extract_eq_take_drop, Nat.add_sub_cancel_left]
    refine List.ext_getElem? fun i => ?_
    rw [List.getElem?_take]
    by_cases hi : i < 4
    · rw [if_pos hi, List.getElem?_drop]
      have := flat_get i hi l j hj
      rw [this]
      simp
    · rw [if_neg hi]
      symm
      rw [List.getElem?_eq_none_iff]
      show 4 ≤ i
      omega
  rw [← Array.toArray_toList (xs := (flat l).toArray.extract (j * 4) (j * 4 + 4)), e]
theorem run_index_arr (l : List Se) (j : Nat) (hj : j < l.length) (hl : l.length = 1024) (w : World) : (Instr.index 85 (.agg (flat l).toArray) (.int .i64 (j : Int))).run Tryd.prog w = .ok (.agg l[j].cs) w := by
  have h2 : ¬ 1024 ≤ j := by omega
  rw [← flat_part hj]
  simp [Instr.index, asIntOf, go_sem, part, Tryd.sizeOf65, Tryd.isAgg65, h2, Result.andThen]

/-! the walk over the classes -/
def byN (N : Nat) (row : List Int) (p : List Se) (k : Nat) : List Se := (List.range N).map fun dst => byM (row.take k) (p.take k) dst
theorem byN_len (N : Nat) (row : List Int) (p : List Se) (k : Nat) : (byN N row p k).length = N := by unfold byN; rw [List.length_map, List.length_range]
theorem byN_get (N : Nat) (row : List Int) (p : List Se) (m i : Nat) (h : i < (byN N row p m).length) : (byN N row p m)[i] = byM (row.take m) (p.take m) i := by simp [byN]
theorem byN_zero (N : Nat) (row : List Int) (p : List Se) : byN N row p 0 = List.replicate N Se.none := by
  unfold byN
  rw [List.eq_replicate_iff]
  refine ⟨by rw [List.length_map, List.length_range], fun b hb => ?_⟩
  obtain ⟨i, _, rfl⟩ := List.mem_map.1 hb
  rfl
/-- some of the classes have come: what the array holds -/
def byL (row : List Int) (p : List Se) (k : Nat) : List Se := byN 1024 row p k
theorem byL_len (row : List Int) (p : List Se) (k : Nat) : (byL row p k).length = 1024 := byN_len 1024 row p k
theorem byL_get (row : List Int) (p : List Se) (m i : Nat) (h : i < (byL row p m).length) : (byL row p m)[i] = byM (row.take m) (p.take m) i := byN_get 1024 row p m i h
theorem byL_zero (row : List Int) (p : List Se) : byL row p 0 = zeros := byN_zero 1024 row p
theorem byM_succ (row : List Int) (p : List Se) (k dst : Nat) (hk : k < row.length) (hp : k < p.length) : byM (row.take (k + 1)) (p.take (k + 1)) dst = if row[k] = (dst : Int) then anyS (byM (row.take k) (p.take k) dst) p[k] else byM (row.take k) (p.take k) dst := by
  unfold byM
  rw [List.take_succ_eq_append_getElem hk, List.take_succ_eq_append_getElem hp, List.zip_append (by simp; omega), List.filter_append, List.foldl_append]
  by_cases h : row[k] = (dst : Int)
  · rw [if_pos h]; simp [h]
  · rw [if_neg h]; simp [h]
theorem byN_succ (N : Nat) (row : List Int) (p : List Se) (k r : Nat) (hk : k < row.length) (hp : k < p.length) (hr : row[k] = (r : Int)) (hr1 : r < N) : byN N row p (k + 1) = (byN N row p k).set r (anyS ((byN N row p k)[r]'(by rw [byN_len]; exact hr1)) p[k]) := by
  refine List.ext_getElem (by rw [List.length_set, byN_len, byN_len]) fun i h1 h2 => ?_
  rw [byN_get, byM_succ row p k i hk hp, hr, List.getElem_set]
  by_cases e : r = i
  · subst e
    rw [if_pos rfl, if_pos rfl, byN_get]
  · rw [if_neg (by omega), if_neg e, byN_get]
theorem byL_succ (row : List Int) (p : List Se) (k r : Nat) (hk : k < row.length) (hp : k < p.length) (hr : row[k] = (r : Int)) (hr1 : r < 1024) : byL row p (k + 1) = (byL row p k).set r (anyS ((byL row p k)[r]'(by rw [byL_len]; exact hr1)) p[k]) := byN_succ 1024 row p k r hk hp hr hr1
theorem byL_all {row : List Int} {p : List Se} (h : row.length = p.length) {dst : Nat} (hd : dst < 1024) : (byL row p p.length)[dst]'(by rw [byL_len]; exact hd) = byM row p dst := by
  rw [byL_get, List.take_length, ← h, List.take_length]
/-- the edges up to a state -/
def edgesTo (s : Nat) (row : List Int) (p : List Se) (k : Nat) : List Edge := (List.range' 0 k).filterMap fun dst => if byM row p dst = Se.none then none else some ⟨s, dst, byM row p dst⟩
set_option maxRecDepth 100000 in
theorem edgesTo_all (s : Nat) (row : List Int) (p : List Se) : edgesTo s row p 1024 = edgesOf s row p := by delta edgesTo edgesOf; rfl
theorem edgesTo_len (s : Nat) (row : List Int) (p : List Se) (k : Nat) : (edgesTo s row p k).length ≤ k := by
  unfold edgesTo
  refine Nat.le_trans (List.length_filterMap_le _ _) (by simp)
theorem edgesTo_no {s : Nat} {row : List Int} {p : List Se} {k : Nat} (h : byM row p k = Se.none) : edgesTo s row p (k + 1) = edgesTo s row p k := by
  unfold edgesTo
  rw [List.range'_concat, List.filterMap_append]
  simp [h]
theorem edgesTo_yes {s : Nat} {row : List Int} {p : List Se} {k : Nat} (h : byM row p k ≠ Se.none) : edgesTo s row p (k + 1) = edgesTo s row p k ++ [⟨s, k, byM row p k⟩] := by
  unfold edgesTo
  rw [List.range'_concat, List.filterMap_append]
  simp [h]
end Go.Proofs.YtfjomnhdmkbkiaaDoor.Im
