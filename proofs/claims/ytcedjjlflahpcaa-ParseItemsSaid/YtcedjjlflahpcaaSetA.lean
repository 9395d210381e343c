/-
  The contracts of set.Not, set.Any and set.Span, without a condition.
-/
import Derived.Test.YtcedjjlflahpcaaLx1
namespace Go.Proofs.Ytcedjjlflahpcaa
open Go.RowKit Go.Lib

abbrev Se.v (s : Se) : Value := .agg #[.int .u64 s.a, .int .u64 s.b, .int .u64 s.c, .int .u64 s.d]
def notS (s : Se) : Se := ⟨bits .xor .u64 IntKind.u64.max s.a, bits .xor .u64 IntKind.u64.max s.b, bits .xor .u64 IntKind.u64.max s.c, bits .xor .u64 IntKind.u64.max s.d⟩
def anyS (s t : Se) : Se := ⟨bits .or .u64 s.a t.a, bits .or .u64 s.b t.b, bits .or .u64 s.c t.c, bits .or .u64 s.d t.d⟩

set_option maxHeartbeats 1000000 in
theorem not_any (s : Se) (w : World) :
    Calls Try.prog 64 #[s.v] w fun e w' => e = .returned (notS s).v ∧ Below w.heap.size w w' := by
  obtain ⟨a, b, c, d⟩ := s
  go_enter Try.func64, Try.ntmps64
  go_wp2
  refine wp_loop_rounds 5 ?_
  iterate 5 (rw [rounds_succ]; go_wp2)
  exact bodyPost_ret (v := (notS ⟨a, b, c, d⟩).v) (by simp [results, Try.results64, go_sem, notS]) rfl ⟨rfl, ((Below.refl _ _).alloc (Nat.le_refl _) _).alloc (by simp) _⟩

set_option maxHeartbeats 2000000 in
theorem any_any (s t : Se) (w : World) :
    Calls Try.prog 62 #[s.v, t.v] w fun e w' => e = .returned (anyS s t).v ∧ Below w.heap.size w w' := by
  obtain ⟨a, b, c, d⟩ := s
  obtain ⟨a', b', c', d'⟩ := t
  go_enter Try.func62, Try.ntmps62
  go_wp2
  refine wp_loop_rounds 5 ?_
  iterate 4 (rw [rounds_succ]; go_wp2; go_region; go_wp2)
  rw [rounds_succ]; go_wp2
  exact bodyPost_ret (v := (anyS ⟨a, b, c, d⟩ ⟨a', b', c', d'⟩).v) (by simp [results, Try.results62, go_sem, anyS]) rfl ⟨rfl, (((((((Below.refl _ _).alloc (Nat.le_refl _) _).alloc (by simp) _).alloc (by simp; omega) _).drew).drew).drew).drew⟩

def orBit (s : Se) (n : Nat) : Se :=
  if n / 64 = 0 then { s with a := bits .or .u64 s.a (IntKind.u64.wrap (2 ^ (n % 64))) } else
  if n / 64 = 1 then { s with b := bits .or .u64 s.b (IntKind.u64.wrap (2 ^ (n % 64))) } else
  if n / 64 = 2 then { s with c := bits .or .u64 s.c (IntKind.u64.wrap (2 ^ (n % 64))) } else
  { s with d := bits .or .u64 s.d (IntKind.u64.wrap (2 ^ (n % 64))) }
def bitsOf (x k : Nat) : Se := (List.range' x k).foldl orBit Se.none
def spanS (x y : B) : Se := bitsOf x.toNat (y.toNat + 1 - x.toNat)
theorem bitsOf_succ (x k : Nat) : bitsOf x (k + 1) = orBit (bitsOf x k) (x + k) := by
  unfold bitsOf
  rw [List.range'_concat, List.foldl_append]
  simp
theorem heap_set {w : World} {g i : Nat} {cs : Array Value} {t : TypeId} (hg : w.heap[g]? = some (.cells cs t (0, 0))) (v : Value) : ((w.setCell ⟨g, i, none⟩ v).drew).heap[g]? = some (.cells (cs.setIfInBounds i v) t (0, 0)) :=
  heap_setCell_same w g i cs t v hg
theorem heap_set_other {w : World} {g i j : Nat} (h : j ≠ g) (v : Value) : ((w.setCell ⟨g, i, none⟩ v).drew).heap[j]? = w.heap[j]? :=
  heap_setCell_other w ⟨g, i, none⟩ j v h
abbrev Se.cs (s : Se) : Array Value := #[.int .u64 s.a, .int .u64 s.b, .int .u64 s.c, .int .u64 s.d]

set_option maxHeartbeats 2000000 in
theorem span_any (x y : B) (w : World) :
    Calls Try.prog 63 #[.int .u8 x.toNat, .int .u8 y.toNat] w fun e w' => e = .returned (spanS x y).v ∧ Below w.heap.size w w' := by
  have hx := x.toNat_lt
  have hy := y.toNat_lt
  go_enter Try.func63, Try.ntmps63
  go_wp2
  go_loopw [6] (fun i wr => ∃ k : Nat, (x.toNat + k ≤ y.toNat + 1 ∨ k = 0) ∧ i = .int .i64 ((x.toNat : Int) + k) ∧ wr.heap[w.heap.size]? = some (.cells Se.none.cs 24) ∧ wr.heap[w.heap.size + 1]? = some (.cells (bitsOf x.toNat k).cs 24) ∧ Below w.heap.size w wr) (fun i _ => 256 - (intOf i).toNat)
  case atStart => exact ⟨0, .inr rfl, by simp, heap_alloc2_old _ _ _, heap_alloc2_new _ _ _, ((Below.refl _ _).alloc (Nat.le_refl _) _).alloc (by simp) _⟩
  case round =>
    obtain ⟨k, hk, rfl, hb0, hb1, hbel⟩ := hrel
    have HB0 := hid hb0
    have HB1 := hid hb1
    by_cases hlt : x.toNat + k ≤ y.toNat
    · have hs := hid (bitsOf_succ x.toNat k)
      generalize bitsOf x.toNat k = s at *
      have c0 : wr.cell? ⟨w.heap.size + 1, 0, none⟩ = some (.int .u64 s.a) := cell_of_row _ _ _ _ _ _ hb1
      have c1 : wr.cell? ⟨w.heap.size + 1, 1, none⟩ = some (.int .u64 s.b) := cell_of_row _ _ _ _ _ _ hb1
      have c2 : wr.cell? ⟨w.heap.size + 1, 2, none⟩ = some (.int .u64 s.c) := cell_of_row _ _ _ _ _ _ hb1
      have c3 : wr.cell? ⟨w.heap.size + 1, 3, none⟩ = some (.int .u64 s.d) := cell_of_row _ _ _ _ _ _ hb1
      have f0 : wr.frozen? ⟨w.heap.size + 1, 0, none⟩ = false := frozen_of_row _ _ _ _ _ hb1
      have f1 : wr.frozen? ⟨w.heap.size + 1, 1, none⟩ = false := frozen_of_row _ _ _ _ _ hb1
      have f2 : wr.frozen? ⟨w.heap.size + 1, 2, none⟩ = false := frozen_of_row _ _ _ _ _ hb1
      have f3 : wr.frozen? ⟨w.heap.size + 1, 3, none⟩ = false := frozen_of_row _ _ _ _ _ hb1
      clear hb0 hb1
      have hcase : (x.toNat + k) / 64 = 0 ∨ (x.toNat + k) / 64 = 1 ∨ (x.toNat + k) / 64 = 2 ∨ (x.toNat + k) / 64 = 3 := by omega
      rcases hcase with hq | hq | hq | hq
      all_goals
        have hq' : ((x.toNat : Int) + k) / 64 = _ := (by omega : _ = (((x.toNat + k) / 64 : Nat) : Int)).trans (congrArg _ hq)
        have HQ := hid hq
        clear hq
        simp only [Int.cast_ofNat_Int] at hq'
        go_wp2
        go_region
        go_wp2
        go_roundw
        case rel =>
          refine ⟨k + 1, .inl (by omega), by go_num, (heap_set_other (by omega) _).trans HB0.out, (heap_set HB1.out _).trans ?_, ((hbel.setCell (by simp) _).drew)⟩
          rw [hs.out]
          simp [orBit, HQ.out]
        case measure => simp [intOf]; omega
    · have z0 : wr.cell? ⟨w.heap.size, 0, none⟩ = some (.int .u64 0) := cell_of_row _ _ _ _ _ _ hb0
      have z1 : wr.cell? ⟨w.heap.size, 1, none⟩ = some (.int .u64 0) := cell_of_row _ _ _ _ _ _ hb0
      have z2 : wr.cell? ⟨w.heap.size, 2, none⟩ = some (.int .u64 0) := cell_of_row _ _ _ _ _ _ hb0
      have z3 : wr.cell? ⟨w.heap.size, 3, none⟩ = some (.int .u64 0) := cell_of_row _ _ _ _ _ _ hb0
      have f0 : wr.frozen? ⟨w.heap.size, 0, none⟩ = false := frozen_of_row _ _ _ _ _ hb0
      have f1 : wr.frozen? ⟨w.heap.size, 1, none⟩ = false := frozen_of_row _ _ _ _ _ hb0
      have f2 : wr.frozen? ⟨w.heap.size, 2, none⟩ = false := frozen_of_row _ _ _ _ _ hb0
      have f3 : wr.frozen? ⟨w.heap.size, 3, none⟩ = false := frozen_of_row _ _ _ _ _ hb0
      have hsp : Hid (spanS x y = bitsOf x.toNat k) := by
        show _ = _
        unfold spanS
        congr 1
        omega
      generalize bitsOf x.toNat k = s at *
      have c0 : wr.cell? ⟨w.heap.size + 1, 0, none⟩ = some (.int .u64 s.a) := cell_of_row _ _ _ _ _ _ hb1
      have c1 : wr.cell? ⟨w.heap.size + 1, 1, none⟩ = some (.int .u64 s.b) := cell_of_row _ _ _ _ _ _ hb1
      have c2 : wr.cell? ⟨w.heap.size + 1, 2, none⟩ = some (.int .u64 s.c) := cell_of_row _ _ _ _ _ _ hb1
      have c3 : wr.cell? ⟨w.heap.size + 1, 3, none⟩ = some (.int .u64 s.d) := cell_of_row _ _ _ _ _ _ hb1
      clear hb0 hb1
      go_wp2
      exact bodyPost_ret (v := (spanS x y).v) (by rw [hsp.out]; simp [results, Try.results63, go_sem, z0, z1, z2, z3]) rfl ⟨rfl, (((hbel.setCell (by simp) _).setCell (by simp) _).setCell (by simp) _).setCell (by simp) _⟩
end Go.Proofs.Ytcedjjlflahpcaa
