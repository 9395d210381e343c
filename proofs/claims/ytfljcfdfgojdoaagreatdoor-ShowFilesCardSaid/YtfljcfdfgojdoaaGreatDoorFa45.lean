/-
  The reference's item: what is written of a right item. (Printed by genIx.py.)
-/
import Derived.Test.YtfljcfdfgojdoaaGreatDoorFa43
import Derived.Test.YtfljcfdfgojdoaaGreatDoorFa44
import Derived.Test.YtfljcfdfgojdoaaGreatDoorFa34
namespace Go.Proofs.YtfljcfdfgojdoaaGreatDoor.Sh.Rf
open Go.RowKit Go.Lib Go.Proofs.YtfljcfdfgojdoaaGreatDoor Go.Proofs.YtfljcfdfgojdoaaGreatDoor.Sh
theorem it_r {w : World} {g : Nat} {k : Int} {nm : List B} {r : Rw} {m : Mw} {o b : List B} {ar : Bool} {l q : Rw} (h : w.heap[g]? = some (.cells (itC k nm r m o b ar l q) 65 (0, 0))) :
    w.cell? ⟨g, 2, none⟩ = some (.int .i64 r.k) ∧ w.cell? ⟨g, 3, none⟩ = some (.string ⟨r.x.toArray⟩) ∧ w.cell? ⟨g, 4, none⟩ = some (.int .u64 r.s.a) ∧ w.cell? ⟨g, 5, none⟩ = some (.int .u64 r.s.b) ∧ w.cell? ⟨g, 6, none⟩ = some (.int .u64 r.s.c) ∧ w.cell? ⟨g, 7, none⟩ = some (.int .u64 r.s.d) ∧ w.cell? ⟨g, 8, none⟩ = some (.slice r.ad r.n r.cap) ∧ w.cell? ⟨g, 9, none⟩ = some (.int .i64 r.mn) ∧ w.cell? ⟨g, 10, none⟩ = some (.int .i64 r.mx) :=
  ⟨cell_of_row _ _ 2 _ _ _ h, cell_of_row _ _ 3 _ _ _ h, cell_of_row _ _ 4 _ _ _ h, cell_of_row _ _ 5 _ _ _ h, cell_of_row _ _ 6 _ _ _ h, cell_of_row _ _ 7 _ _ _ h, cell_of_row _ _ 8 _ _ _ h, cell_of_row _ _ 9 _ _ _ h, cell_of_row _ _ 10 _ _ _ h⟩
theorem it_m {w : World} {g : Nat} {k : Int} {nm : List B} {r : Rw} {m : Mw} {o b : List B} {ar : Bool} {l q : Rw} (h : w.heap[g]? = some (.cells (itC k nm r m o b ar l q) 65 (0, 0))) :
    w.cell? ⟨g, 11, none⟩ = some (.int .i64 m.k) ∧ w.cell? ⟨g, 12, none⟩ = some (.int .i64 m.r.k) ∧ w.cell? ⟨g, 13, none⟩ = some (.string ⟨m.r.x.toArray⟩) ∧ w.cell? ⟨g, 14, none⟩ = some (.int .u64 m.r.s.a) ∧ w.cell? ⟨g, 15, none⟩ = some (.int .u64 m.r.s.b) ∧ w.cell? ⟨g, 16, none⟩ = some (.int .u64 m.r.s.c) ∧ w.cell? ⟨g, 17, none⟩ = some (.int .u64 m.r.s.d) ∧ w.cell? ⟨g, 18, none⟩ = some (.slice m.r.ad m.r.n m.r.cap) ∧ w.cell? ⟨g, 19, none⟩ = some (.int .i64 m.r.mn) ∧ w.cell? ⟨g, 20, none⟩ = some (.int .i64 m.r.mx) ∧ w.cell? ⟨g, 21, none⟩ = some (.string ⟨m.o.toArray⟩) ∧ w.cell? ⟨g, 22, none⟩ = some (.slice m.ad m.n m.cap) ∧ w.cell? ⟨g, 23, none⟩ = some (.int .i64 m.mn) ∧ w.cell? ⟨g, 24, none⟩ = some (.int .i64 m.mx) :=
  ⟨cell_of_row _ _ 11 _ _ _ h, cell_of_row _ _ 12 _ _ _ h, cell_of_row _ _ 13 _ _ _ h, cell_of_row _ _ 14 _ _ _ h, cell_of_row _ _ 15 _ _ _ h, cell_of_row _ _ 16 _ _ _ h, cell_of_row _ _ 17 _ _ _ h, cell_of_row _ _ 18 _ _ _ h, cell_of_row _ _ 19 _ _ _ h, cell_of_row _ _ 20 _ _ _ h, cell_of_row _ _ 21 _ _ _ h, cell_of_row _ _ 22 _ _ _ h, cell_of_row _ _ 23 _ _ _ h, cell_of_row _ _ 24 _ _ _ h⟩
theorem it_lq {w : World} {g : Nat} {k : Int} {nm : List B} {r : Rw} {m : Mw} {o b : List B} {ar : Bool} {l q : Rw} (h : w.heap[g]? = some (.cells (itC k nm r m o b ar l q) 65 (0, 0))) :
    w.cell? ⟨g, 28, none⟩ = some (.int .i64 l.k) ∧ w.cell? ⟨g, 29, none⟩ = some (.string ⟨l.x.toArray⟩) ∧ w.cell? ⟨g, 30, none⟩ = some (.int .u64 l.s.a) ∧ w.cell? ⟨g, 31, none⟩ = some (.int .u64 l.s.b) ∧ w.cell? ⟨g, 32, none⟩ = some (.int .u64 l.s.c) ∧ w.cell? ⟨g, 33, none⟩ = some (.int .u64 l.s.d) ∧ w.cell? ⟨g, 34, none⟩ = some (.slice l.ad l.n l.cap) ∧ w.cell? ⟨g, 35, none⟩ = some (.int .i64 l.mn) ∧ w.cell? ⟨g, 36, none⟩ = some (.int .i64 l.mx) ∧ w.cell? ⟨g, 37, none⟩ = some (.int .i64 q.k) ∧ w.cell? ⟨g, 38, none⟩ = some (.string ⟨q.x.toArray⟩) ∧ w.cell? ⟨g, 39, none⟩ = some (.int .u64 q.s.a) ∧ w.cell? ⟨g, 40, none⟩ = some (.int .u64 q.s.b) ∧ w.cell? ⟨g, 41, none⟩ = some (.int .u64 q.s.c) ∧ w.cell? ⟨g, 42, none⟩ = some (.int .u64 q.s.d) ∧ w.cell? ⟨g, 43, none⟩ = some (.slice q.ad q.n q.cap) ∧ w.cell? ⟨g, 44, none⟩ = some (.int .i64 q.mn) ∧ w.cell? ⟨g, 45, none⟩ = some (.int .i64 q.mx) :=
  ⟨cell_of_row _ _ 28 _ _ _ h, cell_of_row _ _ 29 _ _ _ h, cell_of_row _ _ 30 _ _ _ h, cell_of_row _ _ 31 _ _ _ h, cell_of_row _ _ 32 _ _ _ h, cell_of_row _ _ 33 _ _ _ h, cell_of_row _ _ 34 _ _ _ h, cell_of_row _ _ 35 _ _ _ h, cell_of_row _ _ 36 _ _ _ h, cell_of_row _ _ 37 _ _ _ h, cell_of_row _ _ 38 _ _ _ h, cell_of_row _ _ 39 _ _ _ h, cell_of_row _ _ 40 _ _ _ h, cell_of_row _ _ 41 _ _ _ h, cell_of_row _ _ 42 _ _ _ h, cell_of_row _ _ 43 _ _ _ h, cell_of_row _ _ 44 _ _ _ h, cell_of_row _ _ 45 _ _ _ h⟩
set_option maxRecDepth 100000 in
set_option maxHeartbeats 8000000 in
theorem item_k1 {w : World} {nm : List B} {r : Rw} {m : Mw} {o b : List B} {ar : Bool} {l q : Rw} (X : List B) (hre : ∀ W, Below w.heap.size w W → Calls Tryz.prog 92 #[.agg r.cs, .int .i64 0] W (StrPost X W)) (hL : nm.length + X.length ≤ 10000000000) :
    Calls Tryz.prog 45 #[.agg (itC 1 nm r m o b ar l q)] w (StrPost ([100, 101, 102, 32] ++ nm ++ [32, 61, 32] ++ X ++ [59, 10]) w) := by
  obtain ⟨S1, hS1⟩ : ∃ S, [100, 101, 102, 32] ++ nm = S := ⟨_, rfl⟩
  have l1 : S1.length = ([100, 101, 102, 32] : List B).length + (nm : List B).length := by rw [← hS1, List.length_append]
  have a1 := add_cons [100, 101, 102, 32] nm S1 hS1 (by simp only [List.length_cons, List.length_nil] at *; omega)
  obtain ⟨S2, hS2⟩ : ∃ S, S1 ++ [32, 61, 32] = S := ⟨_, rfl⟩
  have l2 : S2.length = (S1 : List B).length + ([32, 61, 32] : List B).length := by rw [← hS2, List.length_append]
  have a2 := add_cons S1 [32, 61, 32] S2 hS2 (by simp only [List.length_cons, List.length_nil] at *; omega)
  obtain ⟨S3, hS3⟩ : ∃ S, S2 ++ X = S := ⟨_, rfl⟩
  have l3 : S3.length = (S2 : List B).length + (X : List B).length := by rw [← hS3, List.length_append]
  have a3 := add_cons S2 X S3 hS3 (by simp only [List.length_cons, List.length_nil] at *; omega)
  obtain ⟨S4, hS4⟩ : ∃ S, S3 ++ [59, 10] = S := ⟨_, rfl⟩
  have l4 : S4.length = (S3 : List B).length + ([59, 10] : List B).length := by rw [← hS4, List.length_append]
  have a4 := add_cons S3 [59, 10] S4 hS4 (by simp only [List.length_cons, List.length_nil] at *; omega)
  rw [show [100, 101, 102, 32] ++ nm ++ [32, 61, 32] ++ X ++ [59, 10] = S4 by rw [hS1, hS2, hS3, hS4]]
  clear hS1 l1 hS2 l2 hS3 l3 hS4 l4
  have hblk : (w.alloc (.cells (itC 1 nm r m o b ar l q) 65)).heap[w.heap.size]? = some (.cells (itC 1 nm r m o b ar l q) 65 (0, 0)) := heap_alloc_new _ _
  have HX := hid hblk
  have HL := hid ((Below.refl w.heap.size w).alloc (Nat.le_refl _) (.cells (itC 1 nm r m o b ar l q) 65))
  have hsz0 : (w.alloc (.cells (itC 1 nm r m o b ar l q) 65)).heap.size = w.heap.size + 1 := by simp
  have HC := hid hre
  clear hre hL
  clear hblk
  go_enter Tryz.func45, Tryz.ntmps45
  go_upto_region 1 with fail
  generalize w.alloc (.cells (itC 1 nm r m o b ar l q) 65) = W0 at *
  obtain ⟨k0, k1, k25, k26, k27⟩ := it_heads HX.out
  go_upto_region 3 with fail
  have HFa := hid (show ∀ W, Below W0.heap.size W0 W → (fun W : World => W.cell? ⟨w.heap.size, 1, none⟩ = some (.string ⟨nm.toArray⟩) ∧ W.cell? ⟨w.heap.size, 2, none⟩ = some (.int .i64 r.k) ∧ W.cell? ⟨w.heap.size, 3, none⟩ = some (.string ⟨r.x.toArray⟩) ∧ W.cell? ⟨w.heap.size, 4, none⟩ = some (.int .u64 r.s.a) ∧ W.cell? ⟨w.heap.size, 5, none⟩ = some (.int .u64 r.s.b) ∧ W.cell? ⟨w.heap.size, 6, none⟩ = some (.int .u64 r.s.c) ∧ W.cell? ⟨w.heap.size, 7, none⟩ = some (.int .u64 r.s.d) ∧ W.cell? ⟨w.heap.size, 8, none⟩ = some (.slice r.ad r.n r.cap) ∧ W.cell? ⟨w.heap.size, 9, none⟩ = some (.int .i64 r.mn) ∧ W.cell? ⟨w.heap.size, 10, none⟩ = some (.int .i64 r.mx)) W from fun W hW => by
    have hh := ((hW.block _ (lt_of_heap HX.out)).trans HX.out)
    exact ⟨(it_heads hh).2.1, it_r hh⟩)
  have HDa := hid ((Below.refl W0.heap.size W0).drew)
  clear k0 k1 k25 k26 k27
  go_region_held3 (fun W : World => W.cell? ⟨w.heap.size, 1, none⟩ = some (.string ⟨nm.toArray⟩) ∧ W.cell? ⟨w.heap.size, 2, none⟩ = some (.int .i64 r.k) ∧ W.cell? ⟨w.heap.size, 3, none⟩ = some (.string ⟨r.x.toArray⟩) ∧ W.cell? ⟨w.heap.size, 4, none⟩ = some (.int .u64 r.s.a) ∧ W.cell? ⟨w.heap.size, 5, none⟩ = some (.int .u64 r.s.b) ∧ W.cell? ⟨w.heap.size, 6, none⟩ = some (.int .u64 r.s.c) ∧ W.cell? ⟨w.heap.size, 7, none⟩ = some (.int .u64 r.s.d) ∧ W.cell? ⟨w.heap.size, 8, none⟩ = some (.slice r.ad r.n r.cap) ∧ W.cell? ⟨w.heap.size, 9, none⟩ = some (.int .i64 r.mn) ∧ W.cell? ⟨w.heap.size, 10, none⟩ = some (.int .i64 r.mx)) (first | exact HFa.out _ HBa0.out | exact HFa.out _ HDa.out | exact HFa.out _ (Below.refl _ _)) (((go_at_call 92; refine (HC.out _ (HL.out.trans (HDa.out.mono HL.out.size))).mono ?_; rintro e Wa0 ⟨rfl, hb⟩; have HBa0 := hid (HDa.out.trans (hb.mono HDa.out.size)); clear hb)))
  replace HX := hid ((HBa0.out.block _ (lt_of_heap HX.out)).trans HX.out)
  replace HL := hid (HL.out.trans (HBa0.out.mono HL.out.size))
  go_wp2
  go_ret
  exact ⟨rfl, HL.out⟩
set_option maxRecDepth 100000 in
set_option maxHeartbeats 8000000 in
theorem item_k4 {w : World} {nm : List B} {r : Rw} {m : Mw} {o b : List B} {ar : Bool} {l q : Rw} (X : List B) (hre : ∀ W, Below w.heap.size w W → Calls Tryz.prog 92 #[.agg r.cs, .int .i64 0] W (StrPost X W)) (hL : nm.length + X.length ≤ 10000000000) :
    Calls Tryz.prog 45 #[.agg (itC 4 nm r m o b ar l q)] w (StrPost ([116, 111, 107, 101, 110, 32] ++ nm ++ [32, 61, 32] ++ X ++ [59, 10]) w) := by
  obtain ⟨S1, hS1⟩ : ∃ S, [116, 111, 107, 101, 110, 32] ++ nm = S := ⟨_, rfl⟩
  have l1 : S1.length = ([116, 111, 107, 101, 110, 32] : List B).length + (nm : List B).length := by rw [← hS1, List.length_append]
  have a1 := add_cons [116, 111, 107, 101, 110, 32] nm S1 hS1 (by simp only [List.length_cons, List.length_nil] at *; omega)
  obtain ⟨S2, hS2⟩ : ∃ S, S1 ++ [32, 61, 32] = S := ⟨_, rfl⟩
  have l2 : S2.length = (S1 : List B).length + ([32, 61, 32] : List B).length := by rw [← hS2, List.length_append]
  have a2 := add_cons S1 [32, 61, 32] S2 hS2 (by simp only [List.length_cons, List.length_nil] at *; omega)
  obtain ⟨S3, hS3⟩ : ∃ S, S2 ++ X = S := ⟨_, rfl⟩
  have l3 : S3.length = (S2 : List B).length + (X : List B).length := by rw [← hS3, List.length_append]
  have a3 := add_cons S2 X S3 hS3 (by simp only [List.length_cons, List.length_nil] at *; omega)
  obtain ⟨S4, hS4⟩ : ∃ S, S3 ++ [59, 10] = S := ⟨_, rfl⟩
  have l4 : S4.length = (S3 : List B).length + ([59, 10] : List B).length := by rw [← hS4, List.length_append]
  have a4 := add_cons S3 [59, 10] S4 hS4 (by simp only [List.length_cons, List.length_nil] at *; omega)
  rw [show [116, 111, 107, 101, 110, 32] ++ nm ++ [32, 61, 32] ++ X ++ [59, 10] = S4 by rw [hS1, hS2, hS3, hS4]]
  clear hS1 l1 hS2 l2 hS3 l3 hS4 l4
  have hblk : (w.alloc (.cells (itC 4 nm r m o b ar l q) 65)).heap[w.heap.size]? = some (.cells (itC 4 nm r m o b ar l q) 65 (0, 0)) := heap_alloc_new _ _
  have HX := hid hblk
  have HL := hid ((Below.refl w.heap.size w).alloc (Nat.le_refl _) (.cells (itC 4 nm r m o b ar l q) 65))
  have hsz0 : (w.alloc (.cells (itC 4 nm r m o b ar l q) 65)).heap.size = w.heap.size + 1 := by simp
  have HC := hid hre
  clear hre hL
  clear hblk
  go_enter Tryz.func45, Tryz.ntmps45
  go_upto_region 1 with fail
  generalize w.alloc (.cells (itC 4 nm r m o b ar l q) 65) = W0 at *
  obtain ⟨k0, k1, k25, k26, k27⟩ := it_heads HX.out
  go_upto_region 5 with fail
  have HFa := hid (show ∀ W, Below W0.heap.size W0 W → (fun W : World => W.cell? ⟨w.heap.size, 1, none⟩ = some (.string ⟨nm.toArray⟩) ∧ W.cell? ⟨w.heap.size, 2, none⟩ = some (.int .i64 r.k) ∧ W.cell? ⟨w.heap.size, 3, none⟩ = some (.string ⟨r.x.toArray⟩) ∧ W.cell? ⟨w.heap.size, 4, none⟩ = some (.int .u64 r.s.a) ∧ W.cell? ⟨w.heap.size, 5, none⟩ = some (.int .u64 r.s.b) ∧ W.cell? ⟨w.heap.size, 6, none⟩ = some (.int .u64 r.s.c) ∧ W.cell? ⟨w.heap.size, 7, none⟩ = some (.int .u64 r.s.d) ∧ W.cell? ⟨w.heap.size, 8, none⟩ = some (.slice r.ad r.n r.cap) ∧ W.cell? ⟨w.heap.size, 9, none⟩ = some (.int .i64 r.mn) ∧ W.cell? ⟨w.heap.size, 10, none⟩ = some (.int .i64 r.mx)) W from fun W hW => by
    have hh := ((hW.block _ (lt_of_heap HX.out)).trans HX.out)
    exact ⟨(it_heads hh).2.1, it_r hh⟩)
  have HDa := hid ((Below.refl W0.heap.size W0).drew)
  clear k0 k1 k25 k26 k27
  go_region_held3 (fun W : World => W.cell? ⟨w.heap.size, 1, none⟩ = some (.string ⟨nm.toArray⟩) ∧ W.cell? ⟨w.heap.size, 2, none⟩ = some (.int .i64 r.k) ∧ W.cell? ⟨w.heap.size, 3, none⟩ = some (.string ⟨r.x.toArray⟩) ∧ W.cell? ⟨w.heap.size, 4, none⟩ = some (.int .u64 r.s.a) ∧ W.cell? ⟨w.heap.size, 5, none⟩ = some (.int .u64 r.s.b) ∧ W.cell? ⟨w.heap.size, 6, none⟩ = some (.int .u64 r.s.c) ∧ W.cell? ⟨w.heap.size, 7, none⟩ = some (.int .u64 r.s.d) ∧ W.cell? ⟨w.heap.size, 8, none⟩ = some (.slice r.ad r.n r.cap) ∧ W.cell? ⟨w.heap.size, 9, none⟩ = some (.int .i64 r.mn) ∧ W.cell? ⟨w.heap.size, 10, none⟩ = some (.int .i64 r.mx)) (first | exact HFa.out _ HBa0.out | exact HFa.out _ HDa.out | exact HFa.out _ (Below.refl _ _)) (((go_at_call 92; refine (HC.out _ (HL.out.trans (HDa.out.mono HL.out.size))).mono ?_; rintro e Wa0 ⟨rfl, hb⟩; have HBa0 := hid (HDa.out.trans (hb.mono HDa.out.size)); clear hb)))
  replace HX := hid ((HBa0.out.block _ (lt_of_heap HX.out)).trans HX.out)
  replace HL := hid (HL.out.trans (HBa0.out.mono HL.out.size))
  go_wp2
  go_ret
  exact ⟨rfl, HL.out⟩
set_option maxRecDepth 100000 in
set_option maxHeartbeats 8000000 in
theorem item_k2 {w : World} {nm : List B} {r : Rw} {m : Mw} {o b : List B} {ar : Bool} {l q : Rw} (X : List B) (hre : ∀ W, Below w.heap.size w W → Calls Tryz.prog 93 #[.agg m.cs, .int .i64 0] W (StrPost X W)) (hL : nm.length + X.length ≤ 10000000000) :
    Calls Tryz.prog 45 #[.agg (itC 2 nm r m o b ar l q)] w (StrPost ([109, 97, 112, 32] ++ nm ++ [32, 61, 32] ++ X ++ [59, 10]) w) := by
  obtain ⟨S1, hS1⟩ : ∃ S, [109, 97, 112, 32] ++ nm = S := ⟨_, rfl⟩
  have l1 : S1.length = ([109, 97, 112, 32] : List B).length + (nm : List B).length := by rw [← hS1, List.length_append]
  have a1 := add_cons [109, 97, 112, 32] nm S1 hS1 (by simp only [List.length_cons, List.length_nil] at *; omega)
  obtain ⟨S2, hS2⟩ : ∃ S, S1 ++ [32, 61, 32] = S := ⟨_, rfl⟩
  have l2 : S2.length = (S1 : List B).length + ([32, 61, 32] : List B).length := by rw [← hS2, List.length_append]
  have a2 := add_cons S1 [32, 61, 32] S2 hS2 (by simp only [List.length_cons, List.length_nil] at *; omega)
  obtain ⟨S3, hS3⟩ : ∃ S, S2 ++ X = S := ⟨_, rfl⟩
  have l3 : S3.length = (S2 : List B).length + (X : List B).length := by rw [← hS3, List.length_append]
  have a3 := add_cons S2 X S3 hS3 (by simp only [List.length_cons, List.length_nil] at *; omega)
  obtain ⟨S4, hS4⟩ : ∃ S, S3 ++ [59, 10] = S := ⟨_, rfl⟩
  have l4 : S4.length = (S3 : List B).length + ([59, 10] : List B).length := by rw [← hS4, List.length_append]
  have a4 := add_cons S3 [59, 10] S4 hS4 (by simp only [List.length_cons, List.length_nil] at *; omega)
  rw [show [109, 97, 112, 32] ++ nm ++ [32, 61, 32] ++ X ++ [59, 10] = S4 by rw [hS1, hS2, hS3, hS4]]
  clear hS1 l1 hS2 l2 hS3 l3 hS4 l4
  have hblk : (w.alloc (.cells (itC 2 nm r m o b ar l q) 65)).heap[w.heap.size]? = some (.cells (itC 2 nm r m o b ar l q) 65 (0, 0)) := heap_alloc_new _ _
  have HX := hid hblk
  have HL := hid ((Below.refl w.heap.size w).alloc (Nat.le_refl _) (.cells (itC 2 nm r m o b ar l q) 65))
  have hsz0 : (w.alloc (.cells (itC 2 nm r m o b ar l q) 65)).heap.size = w.heap.size + 1 := by simp
  have HC := hid hre
  clear hre hL
  clear hblk
  go_enter Tryz.func45, Tryz.ntmps45
  go_upto_region 1 with fail
  generalize w.alloc (.cells (itC 2 nm r m o b ar l q) 65) = W0 at *
  obtain ⟨k0, k1, k25, k26, k27⟩ := it_heads HX.out
  go_upto_region 7 with fail
  have HFa := hid (show ∀ W, Below W0.heap.size W0 W → (fun W : World => W.cell? ⟨w.heap.size, 1, none⟩ = some (.string ⟨nm.toArray⟩) ∧ W.cell? ⟨w.heap.size, 11, none⟩ = some (.int .i64 m.k) ∧ W.cell? ⟨w.heap.size, 12, none⟩ = some (.int .i64 m.r.k) ∧ W.cell? ⟨w.heap.size, 13, none⟩ = some (.string ⟨m.r.x.toArray⟩) ∧ W.cell? ⟨w.heap.size, 14, none⟩ = some (.int .u64 m.r.s.a) ∧ W.cell? ⟨w.heap.size, 15, none⟩ = some (.int .u64 m.r.s.b) ∧ W.cell? ⟨w.heap.size, 16, none⟩ = some (.int .u64 m.r.s.c) ∧ W.cell? ⟨w.heap.size, 17, none⟩ = some (.int .u64 m.r.s.d) ∧ W.cell? ⟨w.heap.size, 18, none⟩ = some (.slice m.r.ad m.r.n m.r.cap) ∧ W.cell? ⟨w.heap.size, 19, none⟩ = some (.int .i64 m.r.mn) ∧ W.cell? ⟨w.heap.size, 20, none⟩ = some (.int .i64 m.r.mx) ∧ W.cell? ⟨w.heap.size, 21, none⟩ = some (.string ⟨m.o.toArray⟩) ∧ W.cell? ⟨w.heap.size, 22, none⟩ = some (.slice m.ad m.n m.cap) ∧ W.cell? ⟨w.heap.size, 23, none⟩ = some (.int .i64 m.mn) ∧ W.cell? ⟨w.heap.size, 24, none⟩ = some (.int .i64 m.mx)) W from fun W hW => by
    have hh := ((hW.block _ (lt_of_heap HX.out)).trans HX.out)
    exact ⟨(it_heads hh).2.1, it_m hh⟩)
  have HDa := hid ((Below.refl W0.heap.size W0).drew)
  clear k0 k1 k25 k26 k27
  go_region_held3 (fun W : World => W.cell? ⟨w.heap.size, 1, none⟩ = some (.string ⟨nm.toArray⟩) ∧ W.cell? ⟨w.heap.size, 11, none⟩ = some (.int .i64 m.k) ∧ W.cell? ⟨w.heap.size, 12, none⟩ = some (.int .i64 m.r.k) ∧ W.cell? ⟨w.heap.size, 13, none⟩ = some (.string ⟨m.r.x.toArray⟩) ∧ W.cell? ⟨w.heap.size, 14, none⟩ = some (.int .u64 m.r.s.a) ∧ W.cell? ⟨w.heap.size, 15, none⟩ = some (.int .u64 m.r.s.b) ∧ W.cell? ⟨w.heap.size, 16, none⟩ = some (.int .u64 m.r.s.c) ∧ W.cell? ⟨w.heap.size, 17, none⟩ = some (.int .u64 m.r.s.d) ∧ W.cell? ⟨w.heap.size, 18, none⟩ = some (.slice m.r.ad m.r.n m.r.cap) ∧ W.cell? ⟨w.heap.size, 19, none⟩ = some (.int .i64 m.r.mn) ∧ W.cell? ⟨w.heap.size, 20, none⟩ = some (.int .i64 m.r.mx) ∧ W.cell? ⟨w.heap.size, 21, none⟩ = some (.string ⟨m.o.toArray⟩) ∧ W.cell? ⟨w.heap.size, 22, none⟩ = some (.slice m.ad m.n m.cap) ∧ W.cell? ⟨w.heap.size, 23, none⟩ = some (.int .i64 m.mn) ∧ W.cell? ⟨w.heap.size, 24, none⟩ = some (.int .i64 m.mx)) (first | exact HFa.out _ HBa0.out | exact HFa.out _ HDa.out | exact HFa.out _ (Below.refl _ _)) (((go_at_call 93; refine (HC.out _ (HL.out.trans (HDa.out.mono HL.out.size))).mono ?_; rintro e Wa0 ⟨rfl, hb⟩; have HBa0 := hid (HDa.out.trans (hb.mono HDa.out.size)); clear hb)))
  replace HX := hid ((HBa0.out.block _ (lt_of_heap HX.out)).trans HX.out)
  replace HL := hid (HL.out.trans (HBa0.out.mono HL.out.size))
  go_wp2
  go_ret
  exact ⟨rfl, HL.out⟩
set_option maxRecDepth 100000 in
set_option maxHeartbeats 8000000 in
theorem item_r00 {w : World} {nm : List B} {r : Rw} {m : Mw} {o : List B} {l q : Rw} (X T : List B) (hre : ∀ W, Below w.heap.size w W → Calls Tryz.prog 92 #[.agg r.cs, .int .i64 0] W (StrPost X W)) (htx : ∀ W, Calls Tryz.prog 94 #[.string ⟨o.toArray⟩] W (StrPost T W)) (hL : X.length + T.length ≤ 10000000000) :
    Calls Tryz.prog 45 #[.agg (itC 3 nm r m o [] false l q)] w (StrPost ([114, 117, 108, 101, 32] ++ X ++ [32, 45, 62, 32] ++ T ++ [59, 10]) w) := by
  obtain ⟨S1, hS1⟩ : ∃ S, [114, 117, 108, 101, 32] ++ X = S := ⟨_, rfl⟩
  have l1 : S1.length = ([114, 117, 108, 101, 32] : List B).length + (X : List B).length := by rw [← hS1, List.length_append]
  have a1 := add_cons [114, 117, 108, 101, 32] X S1 hS1 (by simp only [List.length_cons, List.length_nil] at *; omega)
  obtain ⟨S2, hS2⟩ : ∃ S, S1 ++ [32, 45, 62, 32] = S := ⟨_, rfl⟩
  have l2 : S2.length = (S1 : List B).length + ([32, 45, 62, 32] : List B).length := by rw [← hS2, List.length_append]
  have a2 := add_cons S1 [32, 45, 62, 32] S2 hS2 (by simp only [List.length_cons, List.length_nil] at *; omega)
  obtain ⟨S3, hS3⟩ : ∃ S, S2 ++ T = S := ⟨_, rfl⟩
  have l3 : S3.length = (S2 : List B).length + (T : List B).length := by rw [← hS3, List.length_append]
  have a3 := add_cons S2 T S3 hS3 (by simp only [List.length_cons, List.length_nil] at *; omega)
  obtain ⟨S4, hS4⟩ : ∃ S, S3 ++ [59, 10] = S := ⟨_, rfl⟩
  have l4 : S4.length = (S3 : List B).length + ([59, 10] : List B).length := by rw [← hS4, List.length_append]
  have a4 := add_cons S3 [59, 10] S4 hS4 (by simp only [List.length_cons, List.length_nil] at *; omega)
  rw [show [114, 117, 108, 101, 32] ++ X ++ [32, 45, 62, 32] ++ T ++ [59, 10] = S4 by rw [hS1, hS2, hS3, hS4]]
  clear hS1 l1 hS2 l2 hS3 l3 hS4 l4
  have hblk : (w.alloc (.cells (itC 3 nm r m o [] false l q) 65)).heap[w.heap.size]? = some (.cells (itC 3 nm r m o [] false l q) 65 (0, 0)) := heap_alloc_new _ _
  have HX := hid hblk
  have HL := hid ((Below.refl w.heap.size w).alloc (Nat.le_refl _) (.cells (itC 3 nm r m o [] false l q) 65))
  have hsz0 : (w.alloc (.cells (itC 3 nm r m o [] false l q) 65)).heap.size = w.heap.size + 1 := by simp
  have HC := hid hre
  have HT := hid htx
  clear hre hL htx
  clear hblk
  go_enter Tryz.func45, Tryz.ntmps45
  go_upto_region 1 with fail
  generalize w.alloc (.cells (itC 3 nm r m o [] false l q) 65) = W0 at *
  obtain ⟨k0, k1, k25, k26, k27⟩ := it_heads HX.out
  go_upto_region 11 with (go_at_call 94; refine (HT.out _).mono ?_; rintro e W1 ⟨rfl, hb⟩; replace HL := hid (HL.out.trans (hb.mono HL.out.size)); replace HX := hid ((hb.block _ (lt_of_heap HX.out)).trans HX.out); clear hb k0 k1 k25 k26 k27; obtain ⟨k0, k1, k25, k26, k27⟩ := it_heads HX.out)
  go_upto_region 14 with (first | (with_reducible (show wpList _ _ _ (⟨some 48, Op.load 33 (Operand.tmp 47), _, _, _, _⟩ :: _) _ _); refine wpList_load_part 33 (.tmp 47) rfl (by kernel_rfl) w.heap.size 2 rfl r.cs _ (it_ranges HX.out).1 Tryz.underlying33 rfl 9 info27 rfl ?_) | (go_at_call 92; refine (HC.out _ HL.out).mono ?_; rintro e Wa0 ⟨rfl, hb⟩; replace HL := hid (HL.out.trans (hb.mono HL.out.size)); replace HX := hid ((hb.block _ (lt_of_heap HX.out)).trans HX.out); clear hb k0 k1 k25 k26 k27; obtain ⟨k0, k1, k25, k26, k27⟩ := it_heads HX.out))
  go_wp2
  go_ret
  exact ⟨rfl, HL.out⟩
set_option maxRecDepth 100000 in
set_option maxHeartbeats 8000000 in
theorem item_r01 {w : World} {nm : List B} {r : Rw} {m : Mw} {o : List B} {l q : Rw} (X T : List B) (hre : ∀ W, Below w.heap.size w W → Calls Tryz.prog 92 #[.agg r.cs, .int .i64 0] W (StrPost X W)) (htx : ∀ W, Calls Tryz.prog 94 #[.string ⟨o.toArray⟩] W (StrPost T W)) (Y Z : List B) (hrl : ∀ W, Below w.heap.size w W → Calls Tryz.prog 92 #[.agg l.cs, .int .i64 0] W (StrPost Y W)) (hrq : ∀ W, Below w.heap.size w W → Calls Tryz.prog 92 #[.agg q.cs, .int .i64 0] W (StrPost Z W)) (hL : X.length + T.length + Y.length + Z.length ≤ 10000000000) :
    Calls Tryz.prog 45 #[.agg (itC 3 nm r m o [] true l q)] w (StrPost ([114, 117, 108, 101, 32] ++ X ++ [32, 45, 62, 32] ++ T ++ [32, 47, 32] ++ Y ++ [32, 95, 32] ++ Z ++ [59, 10]) w) := by
  obtain ⟨S1, hS1⟩ : ∃ S, [114, 117, 108, 101, 32] ++ X = S := ⟨_, rfl⟩
  have l1 : S1.length = ([114, 117, 108, 101, 32] : List B).length + (X : List B).length := by rw [← hS1, List.length_append]
  have a1 := add_cons [114, 117, 108, 101, 32] X S1 hS1 (by simp only [List.length_cons, List.length_nil] at *; omega)
  obtain ⟨S2, hS2⟩ : ∃ S, S1 ++ [32, 45, 62, 32] = S := ⟨_, rfl⟩
  have l2 : S2.length = (S1 : List B).length + ([32, 45, 62, 32] : List B).length := by rw [← hS2, List.length_append]
  have a2 := add_cons S1 [32, 45, 62, 32] S2 hS2 (by simp only [List.length_cons, List.length_nil] at *; omega)
  obtain ⟨S3, hS3⟩ : ∃ S, S2 ++ T = S := ⟨_, rfl⟩
  have l3 : S3.length = (S2 : List B).length + (T : List B).length := by rw [← hS3, List.length_append]
  have a3 := add_cons S2 T S3 hS3 (by simp only [List.length_cons, List.length_nil] at *; omega)
  obtain ⟨S4, hS4⟩ : ∃ S, S3 ++ [32, 47, 32] = S := ⟨_, rfl⟩
  have l4 : S4.length = (S3 : List B).length + ([32, 47, 32] : List B).length := by rw [← hS4, List.length_append]
  have a4 := add_cons S3 [32, 47, 32] S4 hS4 (by simp only [List.length_cons, List.length_nil] at *; omega)
  obtain ⟨S5, hS5⟩ : ∃ S, S4 ++ Y = S := ⟨_, rfl⟩
  have l5 : S5.length = (S4 : List B).length + (Y : List B).length := by rw [← hS5, List.length_append]
  have a5 := add_cons S4 Y S5 hS5 (by simp only [List.length_cons, List.length_nil] at *; omega)
  obtain ⟨S6, hS6⟩ : ∃ S, S5 ++ [32, 95, 32] = S := ⟨_, rfl⟩
  have l6 : S6.length = (S5 : List B).length + ([32, 95, 32] : List B).length := by rw [← hS6, List.length_append]
  have a6 := add_cons S5 [32, 95, 32] S6 hS6 (by simp only [List.length_cons, List.length_nil] at *; omega)
  obtain ⟨S7, hS7⟩ : ∃ S, S6 ++ Z = S := ⟨_, rfl⟩
  have l7 : S7.length = (S6 : List B).length + (Z : List B).length := by rw [← hS7, List.length_append]
  have a7 := add_cons S6 Z S7 hS7 (by simp only [List.length_cons, List.length_nil] at *; omega)
  obtain ⟨S8, hS8⟩ : ∃ S, S7 ++ [59, 10] = S := ⟨_, rfl⟩
  have l8 : S8.length = (S7 : List B).length + ([59, 10] : List B).length := by rw [← hS8, List.length_append]
  have a8 := add_cons S7 [59, 10] S8 hS8 (by simp only [List.length_cons, List.length_nil] at *; omega)
  rw [show [114, 117, 108, 101, 32] ++ X ++ [32, 45, 62, 32] ++ T ++ [32, 47, 32] ++ Y ++ [32, 95, 32] ++ Z ++ [59, 10] = S8 by rw [hS1, hS2, hS3, hS4, hS5, hS6, hS7, hS8]]
  clear hS1 l1 hS2 l2 hS3 l3 hS4 l4 hS5 l5 hS6 l6 hS7 l7 hS8 l8
  have hblk : (w.alloc (.cells (itC 3 nm r m o [] true l q) 65)).heap[w.heap.size]? = some (.cells (itC 3 nm r m o [] true l q) 65 (0, 0)) := heap_alloc_new _ _
  have HX := hid hblk
  have HL := hid ((Below.refl w.heap.size w).alloc (Nat.le_refl _) (.cells (itC 3 nm r m o [] true l q) 65))
  have hsz0 : (w.alloc (.cells (itC 3 nm r m o [] true l q) 65)).heap.size = w.heap.size + 1 := by simp
  have HC := hid hre
  have HT := hid htx
  have HCL := hid hrl
  have HCQ := hid hrq
  clear hre hL htx hrl hrq
  clear hblk
  go_enter Tryz.func45, Tryz.ntmps45
  go_upto_region 1 with fail
  generalize w.alloc (.cells (itC 3 nm r m o [] true l q) 65) = W0 at *
  obtain ⟨k0, k1, k25, k26, k27⟩ := it_heads HX.out
  go_upto_region 11 with (go_at_call 94; refine (HT.out _).mono ?_; rintro e W1 ⟨rfl, hb⟩; replace HL := hid (HL.out.trans (hb.mono HL.out.size)); replace HX := hid ((hb.block _ (lt_of_heap HX.out)).trans HX.out); clear hb k0 k1 k25 k26 k27; obtain ⟨k0, k1, k25, k26, k27⟩ := it_heads HX.out)
  go_upto_region 13 with (first | (with_reducible (show wpList _ _ _ (⟨some 48, Op.load 33 (Operand.tmp 47), _, _, _, _⟩ :: _) _ _); refine wpList_load_part 33 (.tmp 47) rfl (by kernel_rfl) w.heap.size 2 rfl r.cs _ (it_ranges HX.out).1 Tryz.underlying33 rfl 9 info27 rfl ?_) | (go_at_call 92; refine (HC.out _ HL.out).mono ?_; rintro e Wa0 ⟨rfl, hb⟩; replace HL := hid (HL.out.trans (hb.mono HL.out.size)); replace HX := hid ((hb.block _ (lt_of_heap HX.out)).trans HX.out); clear hb k0 k1 k25 k26 k27; obtain ⟨k0, k1, k25, k26, k27⟩ := it_heads HX.out))
  have HTH := hid (fun (W W' : World) (h : Below Wa0.heap.size Wa0 W) (h' : Below W.heap.size W W') => h.trans (h'.mono h.size))
  have HSS := hid (fun (W : World) (h : Below Wa0.heap.size Wa0 W) => (show (fun W : World => W.heap[w.heap.size]? = some (.cells (itC 3 nm r m o [] true l q) 65 (0, 0))) W from (h.block _ (lt_of_heap HX.out)).trans HX.out))
  have HLL := hid (fun (W : World) (h : Below Wa0.heap.size Wa0 W) => HL.out.trans (h.mono HL.out.size))
  have HCUR := hid (Below.refl Wa0.heap.size Wa0).drew
  have HS := hid (HSS.out _ HCUR.out)
  clear k0 k1 k25 k26 k27
  refine wp_region_held_drew (S := (fun W : World => W.heap[w.heap.size]? = some (.cells (itC 3 nm r m o [] true l q) 65 (0, 0)))) (by kernel_rfl) HS.out (fun _ => ?_)
  refine wpAnyH_take (i := 0) (v := .string ⟨S3.toArray⟩) rfl (by kernel_rfl) (by kernel_rfl) (by kernel_rfl) (fun _ _ _ h => h) (Or.inl ⟨by rfl, fun w hS => by go_simp⟩) HS.out ?_
  simp only [Act.put, List.getElem_toArray, List.getElem_cons_zero, List.setIfInBounds_toArray, List.set_cons_zero, List.set_cons_succ]
  refine wpAnyH_take (i := 1) (v := .string ⟨S4.toArray⟩) rfl (by kernel_rfl) (by kernel_rfl) (by kernel_rfl) (fun _ _ _ h => h) (Or.inl ⟨by rfl, fun w hS => by go_simp⟩) HS.out ?_
  simp only [Act.put, List.getElem_toArray, List.getElem_cons_zero, List.getElem_cons_succ, List.setIfInBounds_toArray, List.set_cons_zero, List.set_cons_succ]
  refine wpAnyH_take (i := 2) (v := .pointer (some ⟨w.heap.size, 28, none⟩)) rfl (by kernel_rfl) (by kernel_rfl) (by kernel_rfl) (fun _ _ _ h => h) (Or.inl ⟨by rfl, fun w hS => by go_simp⟩) HS.out ?_
  simp only [Act.put, List.getElem_toArray, List.getElem_cons_zero, List.getElem_cons_succ, List.setIfInBounds_toArray, List.set_cons_zero, List.set_cons_succ]
  refine wpAnyH_take (i := 3) (v := .agg l.cs) rfl (by kernel_rfl) (by kernel_rfl) (by kernel_rfl) (fun _ _ _ h => h) (Or.inl ⟨by rfl, fun w hS => by obtain ⟨c0, c1, c2, c3, c4, c5, c6, c7, c8, d0, d1, d2, d3, d4, d5, d6, d7, d8⟩ := it_lq hS; go_simp⟩) HS.out ?_
  simp only [Act.put, List.getElem_toArray, List.getElem_cons_zero, List.getElem_cons_succ, List.setIfInBounds_toArray, List.set_cons_zero, List.set_cons_succ]
  refine wpAnyH_take (i := 7) (v := .pointer (some ⟨w.heap.size, 37, none⟩)) rfl (by kernel_rfl) (by kernel_rfl) (by kernel_rfl) (fun _ _ _ h => h) (Or.inl ⟨by rfl, fun w hS => by go_simp⟩) HS.out ?_
  simp only [Act.put, List.getElem_toArray, List.getElem_cons_zero, List.getElem_cons_succ, List.setIfInBounds_toArray, List.set_cons_zero, List.set_cons_succ]
  refine wpAnyH_take (i := 8) (v := .agg q.cs) rfl (by kernel_rfl) (by kernel_rfl) (by kernel_rfl) (fun _ _ _ h => h) (Or.inl ⟨by rfl, fun w hS => by obtain ⟨c0, c1, c2, c3, c4, c5, c6, c7, c8, d0, d1, d2, d3, d4, d5, d6, d7, d8⟩ := it_lq hS; go_simp⟩) HS.out ?_
  simp only [Act.put, List.getElem_toArray, List.getElem_cons_zero, List.getElem_cons_succ, List.setIfInBounds_toArray, List.set_cons_zero, List.set_cons_succ]
  refine wpAnyH_ready (rs := [4]) (by kernel_rfl) (by simp) (AllReadyH.cons rfl (fun K hK => ?_) AllReadyH.nil)
  go_simp
  refine (HCL.out _ (HLL.out _ HCUR.out)).mono ?_
  rintro e' wA ⟨rfl, hb'⟩
  have HCUR := hid (HTH.out _ _ HCUR.out hb')
  have HS := hid (HSS.out _ HCUR.out)
  refine hK.out _ _ HS.out (fun _ => ?_)
  clear hK K hb'
  refine wpAnyH_take (i := 5) (v := .string ⟨S5.toArray⟩) rfl (by kernel_rfl) (by kernel_rfl) (by kernel_rfl) (fun _ _ _ h => h) (Or.inl ⟨by rfl, fun w hS => by go_simp⟩) HS.out ?_
  simp only [Act.put, List.getElem_toArray, List.getElem_cons_zero, List.getElem_cons_succ, List.setIfInBounds_toArray, List.set_cons_zero, List.set_cons_succ]
  refine wpAnyH_take (i := 6) (v := .string ⟨S6.toArray⟩) rfl (by kernel_rfl) (by kernel_rfl) (by kernel_rfl) (fun _ _ _ h => h) (Or.inl ⟨by rfl, fun w hS => by go_simp⟩) HS.out ?_
  simp only [Act.put, List.getElem_toArray, List.getElem_cons_zero, List.getElem_cons_succ, List.setIfInBounds_toArray, List.set_cons_zero, List.set_cons_succ]
  refine wpAnyH_ready (rs := [9]) (by kernel_rfl) (by simp) (AllReadyH.cons rfl (fun K hK => ?_) AllReadyH.nil)
  go_simp
  refine (HCQ.out _ (HLL.out _ HCUR.out)).mono ?_
  rintro e' wB ⟨rfl, hb'⟩
  have HCUR := hid (HTH.out _ _ HCUR.out hb')
  have HS := hid (HSS.out _ HCUR.out)
  refine hK.out _ _ HS.out (fun _ => ?_)
  clear hK K hb'
  refine wpAnyH_take (i := 10) (v := .string ⟨S7.toArray⟩) rfl (by kernel_rfl) (by kernel_rfl) (by kernel_rfl) (fun _ _ _ h => h) (Or.inl ⟨by rfl, fun w hS => by go_simp⟩) HS.out ?_
  simp only [Act.put, List.getElem_toArray, List.getElem_cons_zero, List.getElem_cons_succ, List.setIfInBounds_toArray, List.set_cons_zero, List.set_cons_succ]
  refine wpAnyH_take (i := 11) (v := .string ⟨S7.toArray⟩) rfl (by kernel_rfl) (by kernel_rfl) (by kernel_rfl) (fun _ _ _ h => h) (Or.inl ⟨by rfl, fun w hS => by go_simp⟩) HS.out ?_
  simp only [Act.put, List.getElem_toArray, List.getElem_cons_zero, List.getElem_cons_succ, List.setIfInBounds_toArray, List.set_cons_zero, List.set_cons_succ]
  refine wpAnyH_done (by kernel_rfl) ?_ _
  replace HL := hid (HLL.out _ HCUR.out)
  go_wp2
  go_ret
  exact ⟨rfl, HL.out⟩
set_option maxRecDepth 100000 in
set_option maxHeartbeats 8000000 in
theorem item_r10 {w : World} {nm : List B} {r : Rw} {m : Mw} {o : List B} {l q : Rw} (X T : List B) (hre : ∀ W, Below w.heap.size w W → Calls Tryz.prog 92 #[.agg r.cs, .int .i64 0] W (StrPost X W)) (hbe : T ≠ []) (hL : X.length + T.length ≤ 10000000000) :
    Calls Tryz.prog 45 #[.agg (itC 3 nm r m o T false l q)] w (StrPost ([114, 117, 108, 101, 32] ++ X ++ [32, 45, 62, 32] ++ T ++ [59, 10]) w) := by
  obtain ⟨S1, hS1⟩ : ∃ S, [114, 117, 108, 101, 32] ++ X = S := ⟨_, rfl⟩
  have l1 : S1.length = ([114, 117, 108, 101, 32] : List B).length + (X : List B).length := by rw [← hS1, List.length_append]
  have a1 := add_cons [114, 117, 108, 101, 32] X S1 hS1 (by simp only [List.length_cons, List.length_nil] at *; omega)
  obtain ⟨S2, hS2⟩ : ∃ S, S1 ++ [32, 45, 62, 32] = S := ⟨_, rfl⟩
  have l2 : S2.length = (S1 : List B).length + ([32, 45, 62, 32] : List B).length := by rw [← hS2, List.length_append]
  have a2 := add_cons S1 [32, 45, 62, 32] S2 hS2 (by simp only [List.length_cons, List.length_nil] at *; omega)
  obtain ⟨S3, hS3⟩ : ∃ S, S2 ++ T = S := ⟨_, rfl⟩
  have l3 : S3.length = (S2 : List B).length + (T : List B).length := by rw [← hS3, List.length_append]
  have a3 := add_cons S2 T S3 hS3 (by simp only [List.length_cons, List.length_nil] at *; omega)
  obtain ⟨S4, hS4⟩ : ∃ S, S3 ++ [59, 10] = S := ⟨_, rfl⟩
  have l4 : S4.length = (S3 : List B).length + ([59, 10] : List B).length := by rw [← hS4, List.length_append]
  have a4 := add_cons S3 [59, 10] S4 hS4 (by simp only [List.length_cons, List.length_nil] at *; omega)
  rw [show [114, 117, 108, 101, 32] ++ X ++ [32, 45, 62, 32] ++ T ++ [59, 10] = S4 by rw [hS1, hS2, hS3, hS4]]
  clear hS1 l1 hS2 l2 hS3 l3 hS4 l4
  have hblk : (w.alloc (.cells (itC 3 nm r m o T false l q) 65)).heap[w.heap.size]? = some (.cells (itC 3 nm r m o T false l q) 65 (0, 0)) := heap_alloc_new _ _
  have HX := hid hblk
  have HL := hid ((Below.refl w.heap.size w).alloc (Nat.le_refl _) (.cells (itC 3 nm r m o T false l q) 65))
  have hsz0 : (w.alloc (.cells (itC 3 nm r m o T false l q) 65)).heap.size = w.heap.size + 1 := by simp
  have HC := hid hre
  clear hre hL
  obtain ⟨hx1, hx2⟩ := str_none hbe
  have hx3 : T.isEmpty = false := by simpa using hbe
  clear hbe
  clear hblk
  go_enter Tryz.func45, Tryz.ntmps45
  go_upto_region 1 with fail
  generalize w.alloc (.cells (itC 3 nm r m o T false l q) 65) = W0 at *
  obtain ⟨k0, k1, k25, k26, k27⟩ := it_heads HX.out
  go_upto_region 11 with fail
  go_upto_region 14 with (first | (with_reducible (show wpList _ _ _ (⟨some 48, Op.load 33 (Operand.tmp 47), _, _, _, _⟩ :: _) _ _); refine wpList_load_part 33 (.tmp 47) rfl (by kernel_rfl) w.heap.size 2 rfl r.cs _ (it_ranges HX.out).1 Tryz.underlying33 rfl 9 info27 rfl ?_) | (go_at_call 92; refine (HC.out _ HL.out).mono ?_; rintro e Wa0 ⟨rfl, hb⟩; replace HL := hid (HL.out.trans (hb.mono HL.out.size)); replace HX := hid ((hb.block _ (lt_of_heap HX.out)).trans HX.out); clear hb k0 k1 k25 k26 k27; obtain ⟨k0, k1, k25, k26, k27⟩ := it_heads HX.out))
  go_wp2
  go_ret
  exact ⟨rfl, HL.out⟩
set_option maxRecDepth 100000 in
set_option maxHeartbeats 8000000 in
theorem item_r11 {w : World} {nm : List B} {r : Rw} {m : Mw} {o : List B} {l q : Rw} (X T : List B) (hre : ∀ W, Below w.heap.size w W → Calls Tryz.prog 92 #[.agg r.cs, .int .i64 0] W (StrPost X W)) (hbe : T ≠ []) (Y Z : List B) (hrl : ∀ W, Below w.heap.size w W → Calls Tryz.prog 92 #[.agg l.cs, .int .i64 0] W (StrPost Y W)) (hrq : ∀ W, Below w.heap.size w W → Calls Tryz.prog 92 #[.agg q.cs, .int .i64 0] W (StrPost Z W)) (hL : X.length + T.length + Y.length + Z.length ≤ 10000000000) :
    Calls Tryz.prog 45 #[.agg (itC 3 nm r m o T true l q)] w (StrPost ([114, 117, 108, 101, 32] ++ X ++ [32, 45, 62, 32] ++ T ++ [32, 47, 32] ++ Y ++ [32, 95, 32] ++ Z ++ [59, 10]) w) := by
  obtain ⟨S1, hS1⟩ : ∃ S, [114, 117, 108, 101, 32] ++ X = S := ⟨_, rfl⟩
  have l1 : S1.length = ([114, 117, 108, 101, 32] : List B).length + (X : List B).length := by rw [← hS1, List.length_append]
  have a1 := add_cons [114, 117, 108, 101, 32] X S1 hS1 (by simp only [List.length_cons, List.length_nil] at *; omega)
  obtain ⟨S2, hS2⟩ : ∃ S, S1 ++ [32, 45, 62, 32] = S := ⟨_, rfl⟩
  have l2 : S2.length = (S1 : List B).length + ([32, 45, 62, 32] : List B).length := by rw [← hS2, List.length_append]
  have a2 := add_cons S1 [32, 45, 62, 32] S2 hS2 (by simp only [List.length_cons, List.length_nil] at *; omega)
  obtain ⟨S3, hS3⟩ : ∃ S, S2 ++ T = S := ⟨_, rfl⟩
  have l3 : S3.length = (S2 : List B).length + (T : List B).length := by rw [← hS3, List.length_append]
  have a3 := add_cons S2 T S3 hS3 (by simp only [List.length_cons, List.length_nil] at *; omega)
  obtain ⟨S4, hS4⟩ : ∃ S, S3 ++ [32, 47, 32] = S := ⟨_, rfl⟩
  have l4 : S4.length = (S3 : List B).length + ([32, 47, 32] : List B).length := by rw [← hS4, List.length_append]
  have a4 := add_cons S3 [32, 47, 32] S4 hS4 (by simp only [List.length_cons, List.length_nil] at *; omega)
  obtain ⟨S5, hS5⟩ : ∃ S, S4 ++ Y = S := ⟨_, rfl⟩
  have l5 : S5.length = (S4 : List B).length + (Y : List B).length := by rw [← hS5, List.length_append]
  have a5 := add_cons S4 Y S5 hS5 (by simp only [List.length_cons, List.length_nil] at *; omega)
  obtain ⟨S6, hS6⟩ : ∃ S, S5 ++ [32, 95, 32] = S := ⟨_, rfl⟩
  have l6 : S6.length = (S5 : List B).length + ([32, 95, 32] : List B).length := by rw [← hS6, List.length_append]
  have a6 := add_cons S5 [32, 95, 32] S6 hS6 (by simp only [List.length_cons, List.length_nil] at *; omega)
  obtain ⟨S7, hS7⟩ : ∃ S, S6 ++ Z = S := ⟨_, rfl⟩
  have l7 : S7.length = (S6 : List B).length + (Z : List B).length := by rw [← hS7, List.length_append]
  have a7 := add_cons S6 Z S7 hS7 (by simp only [List.length_cons, List.length_nil] at *; omega)
  obtain ⟨S8, hS8⟩ : ∃ S, S7 ++ [59, 10] = S := ⟨_, rfl⟩
  have l8 : S8.length = (S7 : List B).length + ([59, 10] : List B).length := by rw [← hS8, List.length_append]
  have a8 := add_cons S7 [59, 10] S8 hS8 (by simp only [List.length_cons, List.length_nil] at *; omega)
  rw [show [114, 117, 108, 101, 32] ++ X ++ [32, 45, 62, 32] ++ T ++ [32, 47, 32] ++ Y ++ [32, 95, 32] ++ Z ++ [59, 10] = S8 by rw [hS1, hS2, hS3, hS4, hS5, hS6, hS7, hS8]]
  clear hS1 l1 hS2 l2 hS3 l3 hS4 l4 hS5 l5 hS6 l6 hS7 l7 hS8 l8
  have hblk : (w.alloc (.cells (itC 3 nm r m o T true l q) 65)).heap[w.heap.size]? = some (.cells (itC 3 nm r m o T true l q) 65 (0, 0)) := heap_alloc_new _ _
  have HX := hid hblk
  have HL := hid ((Below.refl w.heap.size w).alloc (Nat.le_refl _) (.cells (itC 3 nm r m o T true l q) 65))
  have hsz0 : (w.alloc (.cells (itC 3 nm r m o T true l q) 65)).heap.size = w.heap.size + 1 := by simp
  have HC := hid hre
  have HCL := hid hrl
  have HCQ := hid hrq
  clear hre hL hrl hrq
  obtain ⟨hx1, hx2⟩ := str_none hbe
  have hx3 : T.isEmpty = false := by simpa using hbe
  clear hbe
  clear hblk
  go_enter Tryz.func45, Tryz.ntmps45
  go_upto_region 1 with fail
  generalize w.alloc (.cells (itC 3 nm r m o T true l q) 65) = W0 at *
  obtain ⟨k0, k1, k25, k26, k27⟩ := it_heads HX.out
  go_upto_region 11 with fail
  go_upto_region 13 with (first | (with_reducible (show wpList _ _ _ (⟨some 48, Op.load 33 (Operand.tmp 47), _, _, _, _⟩ :: _) _ _); refine wpList_load_part 33 (.tmp 47) rfl (by kernel_rfl) w.heap.size 2 rfl r.cs _ (it_ranges HX.out).1 Tryz.underlying33 rfl 9 info27 rfl ?_) | (go_at_call 92; refine (HC.out _ HL.out).mono ?_; rintro e Wa0 ⟨rfl, hb⟩; replace HL := hid (HL.out.trans (hb.mono HL.out.size)); replace HX := hid ((hb.block _ (lt_of_heap HX.out)).trans HX.out); clear hb k0 k1 k25 k26 k27; obtain ⟨k0, k1, k25, k26, k27⟩ := it_heads HX.out))
  have HTH := hid (fun (W W' : World) (h : Below Wa0.heap.size Wa0 W) (h' : Below W.heap.size W W') => h.trans (h'.mono h.size))
  have HSS := hid (fun (W : World) (h : Below Wa0.heap.size Wa0 W) => (show (fun W : World => W.heap[w.heap.size]? = some (.cells (itC 3 nm r m o T true l q) 65 (0, 0))) W from (h.block _ (lt_of_heap HX.out)).trans HX.out))
  have HLL := hid (fun (W : World) (h : Below Wa0.heap.size Wa0 W) => HL.out.trans (h.mono HL.out.size))
  have HCUR := hid (Below.refl Wa0.heap.size Wa0).drew
  have HS := hid (HSS.out _ HCUR.out)
  clear k0 k1 k25 k26 k27
  refine wp_region_held_drew (S := (fun W : World => W.heap[w.heap.size]? = some (.cells (itC 3 nm r m o T true l q) 65 (0, 0)))) (by kernel_rfl) HS.out (fun _ => ?_)
  refine wpAnyH_take (i := 0) (v := .string ⟨S3.toArray⟩) rfl (by kernel_rfl) (by kernel_rfl) (by kernel_rfl) (fun _ _ _ h => h) (Or.inl ⟨by rfl, fun w hS => by go_simp⟩) HS.out ?_
  simp only [Act.put, List.getElem_toArray, List.getElem_cons_zero, List.setIfInBounds_toArray, List.set_cons_zero, List.set_cons_succ]
  refine wpAnyH_take (i := 1) (v := .string ⟨S4.toArray⟩) rfl (by kernel_rfl) (by kernel_rfl) (by kernel_rfl) (fun _ _ _ h => h) (Or.inl ⟨by rfl, fun w hS => by go_simp⟩) HS.out ?_
  simp only [Act.put, List.getElem_toArray, List.getElem_cons_zero, List.getElem_cons_succ, List.setIfInBounds_toArray, List.set_cons_zero, List.set_cons_succ]
  refine wpAnyH_take (i := 2) (v := .pointer (some ⟨w.heap.size, 28, none⟩)) rfl (by kernel_rfl) (by kernel_rfl) (by kernel_rfl) (fun _ _ _ h => h) (Or.inl ⟨by rfl, fun w hS => by go_simp⟩) HS.out ?_
  simp only [Act.put, List.getElem_toArray, List.getElem_cons_zero, List.getElem_cons_succ, List.setIfInBounds_toArray, List.set_cons_zero, List.set_cons_succ]
  refine wpAnyH_take (i := 3) (v := .agg l.cs) rfl (by kernel_rfl) (by kernel_rfl) (by kernel_rfl) (fun _ _ _ h => h) (Or.inl ⟨by rfl, fun w hS => by obtain ⟨c0, c1, c2, c3, c4, c5, c6, c7, c8, d0, d1, d2, d3, d4, d5, d6, d7, d8⟩ := it_lq hS; go_simp⟩) HS.out ?_
  simp only [Act.put, List.getElem_toArray, List.getElem_cons_zero, List.getElem_cons_succ, List.setIfInBounds_toArray, List.set_cons_zero, List.set_cons_succ]
  refine wpAnyH_take (i := 7) (v := .pointer (some ⟨w.heap.size, 37, none⟩)) rfl (by kernel_rfl) (by kernel_rfl) (by kernel_rfl) (fun _ _ _ h => h) (Or.inl ⟨by rfl, fun w hS => by go_simp⟩) HS.out ?_
  simp only [Act.put, List.getElem_toArray, List.getElem_cons_zero, List.getElem_cons_succ, List.setIfInBounds_toArray, List.set_cons_zero, List.set_cons_succ]
  refine wpAnyH_take (i := 8) (v := .agg q.cs) rfl (by kernel_rfl) (by kernel_rfl) (by kernel_rfl) (fun _ _ _ h => h) (Or.inl ⟨by rfl, fun w hS => by obtain ⟨c0, c1, c2, c3, c4, c5, c6, c7, c8, d0, d1, d2, d3, d4, d5, d6, d7, d8⟩ := it_lq hS; go_simp⟩) HS.out ?_
  simp only [Act.put, List.getElem_toArray, List.getElem_cons_zero, List.getElem_cons_succ, List.setIfInBounds_toArray, List.set_cons_zero, List.set_cons_succ]
  refine wpAnyH_ready (rs := [4]) (by kernel_rfl) (by simp) (AllReadyH.cons rfl (fun K hK => ?_) AllReadyH.nil)
  go_simp
  refine (HCL.out _ (HLL.out _ HCUR.out)).mono ?_
  rintro e' wA ⟨rfl, hb'⟩
  have HCUR := hid (HTH.out _ _ HCUR.out hb')
  have HS := hid (HSS.out _ HCUR.out)
  refine hK.out _ _ HS.out (fun _ => ?_)
  clear hK K hb'
  refine wpAnyH_take (i := 5) (v := .string ⟨S5.toArray⟩) rfl (by kernel_rfl) (by kernel_rfl) (by kernel_rfl) (fun _ _ _ h => h) (Or.inl ⟨by rfl, fun w hS => by go_simp⟩) HS.out ?_
  simp only [Act.put, List.getElem_toArray, List.getElem_cons_zero, List.getElem_cons_succ, List.setIfInBounds_toArray, List.set_cons_zero, List.set_cons_succ]
  refine wpAnyH_take (i := 6) (v := .string ⟨S6.toArray⟩) rfl (by kernel_rfl) (by kernel_rfl) (by kernel_rfl) (fun _ _ _ h => h) (Or.inl ⟨by rfl, fun w hS => by go_simp⟩) HS.out ?_
  simp only [Act.put, List.getElem_toArray, List.getElem_cons_zero, List.getElem_cons_succ, List.setIfInBounds_toArray, List.set_cons_zero, List.set_cons_succ]
  refine wpAnyH_ready (rs := [9]) (by kernel_rfl) (by simp) (AllReadyH.cons rfl (fun K hK => ?_) AllReadyH.nil)
  go_simp
  refine (HCQ.out _ (HLL.out _ HCUR.out)).mono ?_
  rintro e' wB ⟨rfl, hb'⟩
  have HCUR := hid (HTH.out _ _ HCUR.out hb')
  have HS := hid (HSS.out _ HCUR.out)
  refine hK.out _ _ HS.out (fun _ => ?_)
  clear hK K hb'
  refine wpAnyH_take (i := 10) (v := .string ⟨S7.toArray⟩) rfl (by kernel_rfl) (by kernel_rfl) (by kernel_rfl) (fun _ _ _ h => h) (Or.inl ⟨by rfl, fun w hS => by go_simp⟩) HS.out ?_
  simp only [Act.put, List.getElem_toArray, List.getElem_cons_zero, List.getElem_cons_succ, List.setIfInBounds_toArray, List.set_cons_zero, List.set_cons_succ]
  refine wpAnyH_take (i := 11) (v := .string ⟨S7.toArray⟩) rfl (by kernel_rfl) (by kernel_rfl) (by kernel_rfl) (fun _ _ _ h => h) (Or.inl ⟨by rfl, fun w hS => by go_simp⟩) HS.out ?_
  simp only [Act.put, List.getElem_toArray, List.getElem_cons_zero, List.getElem_cons_succ, List.setIfInBounds_toArray, List.set_cons_zero, List.set_cons_succ]
  refine wpAnyH_done (by kernel_rfl) ?_ _
  replace HL := hid (HLL.out _ HCUR.out)
  go_wp2
  go_ret
  exact ⟨rfl, HL.out⟩
theorem itemR_any {F : Nat → Prop} {x : It} {y : Iw} {w : World} (hFw : ∀ g, F g → g < w.heap.size) (hy : ItG F w x y) (hx : RtIt x) (hs : SeIt x) (hL : (itemW setS x).length ≤ 1000000000) :
    Calls Tryz.prog 45 #[.agg y.cs] w (StrPost (itemW setS x) w) := by
  have hlt : ∀ W : World, Below w.heap.size w W → ∀ g, F g → g < W.heap.size := fun W hW g hg => Nat.lt_of_lt_of_le (hFw g hg) hW.size
  obtain ⟨yk, yn, yr, ym, yo, yb, ya, yl, yq⟩ := y
  obtain ⟨e1, e2, g1, g2, e3, e4, e5, g3, g4⟩ := hy
  have key : ∀ (r : Re) (y : Rw), OkRe 200 r → SeRe r → (reW setS r).length ≤ 1000000000 → ReG F w r y.cs → ∀ W, Below w.heap.size w W → Calls Tryz.prog 92 #[.agg y.cs, .int .i64 0] W (StrPost (reW setS r) W) := fun r y h1 h2 h3 h4 W hW => by
    have := reR_any 200 r h1 h2 h3 0 (by omega) F _ W (hlt W hW) (h4.below hFw hW)
    rw [(askW_own (by omega) : askW setS r 0 = reW setS r ∧ _).1] at this
    exact this
  cases hx with
  | named k s r hk h1 hr =>
    dsimp only at e1 e2 e3 e4 e5 g1 g2 g3 g4
    subst yk yn yo yb ya
    rcases hk with rfl | rfl
    · have he : itemW setS ⟨1, s, r, Mp.zero, [], [], false, Re.zero, Re.zero⟩ = [100, 101, 102, 32] ++ s ++ [32, 61, 32] ++ reW setS r ++ [59, 10] := rfl
      rw [he] at hL ⊢
      simp only [List.length_append] at hL
      exact item_k1 _ (key r yr hr hs.r (by omega) g1) (by dsimp only; omega)
    · have he : itemW setS ⟨4, s, r, Mp.zero, [], [], false, Re.zero, Re.zero⟩ = [116, 111, 107, 101, 110, 32] ++ s ++ [32, 61, 32] ++ reW setS r ++ [59, 10] := rfl
      rw [he] at hL ⊢
      simp only [List.length_append] at hL
      exact item_k4 _ (key r yr hr hs.r (by omega) g1) (by dsimp only; omega)
  | map s mp h1 hm =>
    dsimp only at e1 e2 e3 e4 e5 g1 g2 g3 g4
    subst yk yn yo yb ya
    have he : itemW setS ⟨2, s, Re.zero, mp, [], [], false, Re.zero, Re.zero⟩ = [109, 97, 112, 32] ++ s ++ [32, 61, 32] ++ mpW setS mp ++ [59, 10] := rfl
    rw [he] at hL ⊢
    simp only [List.length_append] at hL
    refine item_k2 _ (fun W hW => ?_) (by dsimp only; omega)
    have := mpR_any 200 mp hm hs.m (by omega) 0 (by omega) F _ W (hlt W hW) (g2.below hFw hW)
    rw [(maskW_own (by omega) : maskW setS mp 0 = mpW setS mp ∧ _).1] at this
    exact this
  | rule r o b hr ho hb =>
    dsimp only at e1 e2 e3 e4 e5 g1 g2 g3 g4
    subst yk yn yo yb ya
    have he : itemW setS ⟨3, [], r, Mp.zero, o, b, false, Re.zero, Re.zero⟩ = [114, 117, 108, 101, 32] ++ reW setS r ++ [32, 45, 62, 32] ++ (if b = [] then textW o else b) ++ [] ++ [59, 10] := rfl
    rw [List.append_nil] at he
    rw [he] at hL ⊢
    by_cases hbe : b = []
    · subst hbe
      rw [if_pos rfl] at hL ⊢
      simp only [List.length_append] at hL
      exact item_r00 _ _ (key r yr hr hs.r (by omega) g1) (fun W => textE_any ⟨o.toArray⟩ (by rw [str_size]; omega) W) (by first | omega | (dsimp only; omega))
    · rw [if_neg hbe] at hL ⊢
      simp only [List.length_append] at hL
      exact item_r10 _ _ (key r yr hr hs.r (by omega) g1) hbe (by first | omega | (dsimp only; omega))
  | around r o b lx qx hr ho hb h3 h4 =>
    dsimp only at e1 e2 e3 e4 e5 g1 g2 g3 g4
    subst yk yn yo yb ya
    have he : itemW setS ⟨3, [], r, Mp.zero, o, b, true, lx, qx⟩ = [114, 117, 108, 101, 32] ++ reW setS r ++ [32, 45, 62, 32] ++ (if b = [] then textW o else b) ++ ([32, 47, 32] ++ reW setS lx ++ [32, 95, 32] ++ reW setS qx) ++ [59, 10] := rfl
    have he2 : itemW setS ⟨3, [], r, Mp.zero, o, b, true, lx, qx⟩ = [114, 117, 108, 101, 32] ++ reW setS r ++ [32, 45, 62, 32] ++ (if b = [] then textW o else b) ++ [32, 47, 32] ++ reW setS lx ++ [32, 95, 32] ++ reW setS qx ++ [59, 10] := by
      rw [he]; simp only [List.append_assoc]
    rw [he2] at hL ⊢
    by_cases hbe : b = []
    · subst hbe
      rw [if_pos rfl] at hL ⊢
      simp only [List.length_append] at hL
      exact item_r01 _ _ (key r yr hr hs.r (by omega) g1) (fun W => textE_any ⟨o.toArray⟩ (by rw [str_size]; omega) W) _ _ (key lx yl h3 hs.l (by omega) g3) (key qx yq h4 hs.q (by omega) g4) (by first | omega | (dsimp only; omega))
    · rw [if_neg hbe] at hL ⊢
      simp only [List.length_append] at hL
      exact item_r11 _ _ (key r yr hr hs.r (by omega) g1) hbe _ _ (key lx yl h3 hs.l (by omega) g3) (key qx yq h4 hs.q (by omega) g4) (by first | omega | (dsimp only; omega))
end Go.Proofs.YtfljcfdfgojdoaaGreatDoor.Sh.Rf
