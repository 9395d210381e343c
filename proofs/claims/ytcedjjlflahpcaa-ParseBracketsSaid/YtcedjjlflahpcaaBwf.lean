/-
  ParseBrackets returns true at every two texts that are expressions: the walk.
-/
import Derived.Test.YtcedjjlflahpcaaBwk
import Derived.Test.YtcedjjlflahpcaaDwk
import Derived.Deep.DeepCutAuto
import Derived.Deep.RegionHeld3
namespace Go.Proofs.Ytcedjjlflahpcaa
open Go.RowKit Go.Lib

abbrev xB (s : ByteArray) : ByteArray := ⟨#[40]⟩ ++ s ++ ⟨#[10, 41]⟩
abbrev cB (s : ByteArray) : ByteArray := ⟨#[32, 35, 10]⟩ ++ xB s ++ ⟨#[32]⟩
theorem xB_list (s : ByteArray) : (xB s).data.toList = inB s := by simp [inB, ByteArray.data_append]
theorem cB_list (s : ByteArray) : (cB s).data.toList = [32, 35, 10] ++ inB s ++ [32] := by simp [inB, ByteArray.data_append]
theorem xB_size (s : ByteArray) : (xB s).size = s.size + 3 := by rw [size_of_list (xB_list s)]; simp [inB]
theorem cB_size (s : ByteArray) : (cB s).size = s.size + 7 := by rw [size_of_list (cB_list s)]; simp [inB]

abbrev d0 (s t : ByteArray) : ByteArray := xB s ++ xB t
abbrev d1 (c : B) (s t : ByteArray) : ByteArray := xB s ++ ⟨#[c]⟩ ++ xB t
theorem d0_list (s t : ByteArray) : (d0 s t).data.toList = inB s ++ inB t := by rw [ByteArray.data_append, Array.toList_append, xB_list, xB_list]
theorem d1_list (c : B) (s t : ByteArray) : (d1 c s t).data.toList = inB s ++ [c] ++ inB t := by
  rw [ByteArray.data_append, Array.toList_append, ByteArray.data_append, Array.toList_append, xB_list, xB_list]
theorem d0_size (s t : ByteArray) : (d0 s t).size = s.size + t.size + 6 := by rw [size_of_list (d0_list s t)]; simp [inB]; omega
theorem d1_size (c : B) (s t : ByteArray) : (d1 c s t).size = s.size + t.size + 7 := by rw [size_of_list (d1_list c s t)]; simp [inB]; omega
/-- what the loop's i-th text says -/
theorem rounds (s t : ByteArray) {r q : Re} (h1 : s.size ≤ 700) (h2 : t.size ≤ 700) (hr : parseRe s = .ok r) (hq : parseRe t = .ok q) (i : Nat) (hi : i < 3) :
    ∃ (str : ByteArray) (kd : Int), #[Value.string (d0 s t), .string (d1 124 s t), .string (d1 38 s t)][i]? = some (.string str) ∧ #[Value.int .i64 4, .int .i64 5, .int .i64 6][i]? = some (.int .i64 kd) ∧ str.size ≤ 65536 ∧ (parseRe str = .ok (.mk kd [] Se.none [r, q] 0 0) ∨ ∃ p, parseRe str = .error (p, 8)) := by
  have z0 := d0_size s t
  have z1 := d1_size 124 s t
  have z2 := d1_size 38 s t
  obtain rfl | rfl | rfl : i = 0 ∨ i = 1 ∨ i = 2 := by omega
  · exact ⟨d0 s t, 4, rfl, rfl, by omega, brk_cat hr hq (d0_list s t) (by omega)⟩
  · exact ⟨d1 124 s t, 5, rfl, rfl, by omega, brk_bar hr hq (d1_list 124 s t) (by omega)⟩
  · exact ⟨d1 38 s t, 6, rfl, rfl, by omega, brk_amp hr hq (d1_list 38 s t) (by omega)⟩
abbrev sB (s : ByteArray) : ByteArray := ⟨#[33]⟩ ++ xB s ++ ⟨#[42]⟩
theorem sB_list (s : ByteArray) : (sB s).data.toList = [33] ++ inB s ++ [42] := by
  rw [ByteArray.data_append, Array.toList_append, ByteArray.data_append, Array.toList_append, xB_list]
theorem sB_size (s : ByteArray) : (sB s).size = s.size + 5 := by rw [size_of_list (sB_list s)]; simp [inB]

theorem cells9 {w : World} {g : Nat} {k : Int} {x : List B} {u : Se} {v : Value} {mn mx : Int} (h : w.heap[g]? = some (.cells (reC k x u v mn mx) 27 (0, 0))) :
    w.cell? ⟨g, 0, none⟩ = some (.int .i64 k) ∧ w.cell? ⟨g, 1, none⟩ = some (.string ⟨x.toArray⟩) ∧ w.cell? ⟨g, 2, none⟩ = some (.int .u64 u.a) ∧ w.cell? ⟨g, 3, none⟩ = some (.int .u64 u.b) ∧ w.cell? ⟨g, 4, none⟩ = some (.int .u64 u.c) ∧ w.cell? ⟨g, 5, none⟩ = some (.int .u64 u.d) ∧ w.cell? ⟨g, 6, none⟩ = some v ∧ w.cell? ⟨g, 7, none⟩ = some (.int .i64 mn) ∧ w.cell? ⟨g, 8, none⟩ = some (.int .i64 mx) :=
  ⟨cell_of_row _ _ 0 _ _ _ h, cell_of_row _ _ 1 _ _ _ h, cell_of_row _ _ 2 _ _ _ h, cell_of_row _ _ 3 _ _ _ h, cell_of_row _ _ 4 _ _ _ h, cell_of_row _ _ 5 _ _ _ h, cell_of_row _ _ 6 _ _ _ h, cell_of_row _ _ 7 _ _ _ h, cell_of_row _ _ 8 _ _ _ h⟩

set_option maxRecDepth 100000 in
set_option maxHeartbeats 2000000 in
theorem pb_good (s t : ByteArray) (w : World) (h1 : s.size ≤ 700) (h2 : t.size ≤ 700) {r q : Re} (hr : parseRe s = .ok r) (hq : parseRe t = .ok q) :
    Calls Try.prog 3 #[.string s, .string t] w fun e w' => e = .returned (.bool true) ∧ Below w.heap.size w w' := by
  have h1' : (s.size : Int) ≤ 700 := by omega
  have h2' : (t.size : Int) ≤ 700 := by omega
  have hs : s.size ≤ 65536 := by omega
  have ht : t.size ≤ 65536 := by omega
  have hxs := xB_size s
  have hxt := xB_size t
  have hcs := cB_size s
  have hcz : (cB s).size ≤ 65536 := by omega
  have HR := hid hr
  have HQ := hid hq
  have hone := brk_one hr (cB_list s) hcz
  clear hr hq
  rcases hone with hone | ⟨pc, hone⟩
  · have HC := hid hone
    clear hone
    go_enter Try.func3, Try.ntmps3
    go_upto_region 14 with (first | (go_at_call_of 6 (Value.string s); refine (parse_any s _ hs).mono ?_; rintro e w1 hp; obtain ⟨hb1, k1, x1, u1, ad1, n1, cap1, mn1, mx1, rfl, hr1⟩ := hp.good HR.out; have Hr1 := hid hr1; clear hp hr1) | (go_at_call_of 6 (Value.string t); refine (parse_any t _ ht).mono ?_; rintro e w2 hp; obtain ⟨hb2, k2, x2, u2, ad2, n2, cap2, mn2, mx2, rfl, hr2⟩ := hp.good HQ.out; have Hr2 := hid hr2; clear hp hr2) | (go_at_call 6; refine (parse_any (cB s) _ hcz).mono ?_; rintro e w3 hp; obtain ⟨hb3, k3, x3, u3, ad3, n3, cap3, mn3, mx3, rfl, hr3⟩ := hp.good HC.out; have Hr3 := hid hr3; clear hp hr3; have s2 := hb2.size; have s3 := hb3.size; simp only [World.size_alloc] at s2 s3; have hA3 := hid ((hb3.block w1.heap.size (by simp; omega)).trans ((alloc_old (by omega)).trans ((hb2.block w1.heap.size (by simp)).trans (heap_alloc_new w1 (.cells (reC k1 x1 u1 (.slice ad1 n1 cap1) mn1 mx1) 27))))); have a0 : (w3.alloc (.cells (reC k3 x3 u3 (.slice ad3 n3 cap3) mn3 mx3) 27)).cell? ⟨w1.heap.size, 0, none⟩ = some (.int .i64 k1) := cell_of_row _ _ 0 _ _ _ ((alloc_old (by omega)).trans hA3.out); have a1 : (w3.alloc (.cells (reC k3 x3 u3 (.slice ad3 n3 cap3) mn3 mx3) 27)).cell? ⟨w1.heap.size, 1, none⟩ = some (.string ⟨x1.toArray⟩) := cell_of_row _ _ 1 _ _ _ ((alloc_old (by omega)).trans hA3.out); have a2 : (w3.alloc (.cells (reC k3 x3 u3 (.slice ad3 n3 cap3) mn3 mx3) 27)).cell? ⟨w1.heap.size, 2, none⟩ = some (.int .u64 u1.a) := cell_of_row _ _ 2 _ _ _ ((alloc_old (by omega)).trans hA3.out); have a3 : (w3.alloc (.cells (reC k3 x3 u3 (.slice ad3 n3 cap3) mn3 mx3) 27)).cell? ⟨w1.heap.size, 3, none⟩ = some (.int .u64 u1.b) := cell_of_row _ _ 3 _ _ _ ((alloc_old (by omega)).trans hA3.out); have a4 : (w3.alloc (.cells (reC k3 x3 u3 (.slice ad3 n3 cap3) mn3 mx3) 27)).cell? ⟨w1.heap.size, 4, none⟩ = some (.int .u64 u1.c) := cell_of_row _ _ 4 _ _ _ ((alloc_old (by omega)).trans hA3.out); have a5 : (w3.alloc (.cells (reC k3 x3 u3 (.slice ad3 n3 cap3) mn3 mx3) 27)).cell? ⟨w1.heap.size, 5, none⟩ = some (.int .u64 u1.d) := cell_of_row _ _ 5 _ _ _ ((alloc_old (by omega)).trans hA3.out); have a6 : (w3.alloc (.cells (reC k3 x3 u3 (.slice ad3 n3 cap3) mn3 mx3) 27)).cell? ⟨w1.heap.size, 6, none⟩ = some (.slice ad1 n1 cap1) := cell_of_row _ _ 6 _ _ _ ((alloc_old (by omega)).trans hA3.out); have a7 : (w3.alloc (.cells (reC k3 x3 u3 (.slice ad3 n3 cap3) mn3 mx3) 27)).cell? ⟨w1.heap.size, 7, none⟩ = some (.int .i64 mn1) := cell_of_row _ _ 7 _ _ _ ((alloc_old (by omega)).trans hA3.out); have a8 : (w3.alloc (.cells (reC k3 x3 u3 (.slice ad3 n3 cap3) mn3 mx3) 27)).cell? ⟨w1.heap.size, 8, none⟩ = some (.int .i64 mx1) := cell_of_row _ _ 8 _ _ _ ((alloc_old (by omega)).trans hA3.out)) | (go_at_call 8; refine (same_yes _ r (Nat.lt_succ_self _) _ _ _ _ _ (ReIn.frame (F' := fun _ => True) (fun _ _ _ => trivial) (fun q _ hq => alloc_old hq) Hr3.out) (ReIn.frame (F' := fun _ => True) (fun _ _ _ => trivial) (fun q _ hq => (alloc_old (by omega)).trans ((hb3.block q (by simp; omega)).trans ((alloc_old (by omega)).trans ((hb2.block q (by simp; omega)).trans (alloc_old hq))))) Hr1.out)).mono ?_; rintro e w4 ⟨rfl, hb4⟩; have s4 := hb4.size; simp only [World.size_alloc] at s4; have hA4 := hid ((hb4.block w1.heap.size (by simp; omega)).trans ((alloc_old (by omega)).trans hA3.out)); have b0 : w4.cell? ⟨w1.heap.size, 0, none⟩ = some (.int .i64 k1) := cell_of_row _ _ 0 _ _ _ hA4.out; have b1 : w4.cell? ⟨w1.heap.size, 1, none⟩ = some (.string ⟨x1.toArray⟩) := cell_of_row _ _ 1 _ _ _ hA4.out; have b2 : w4.cell? ⟨w1.heap.size, 2, none⟩ = some (.int .u64 u1.a) := cell_of_row _ _ 2 _ _ _ hA4.out; have b3 : w4.cell? ⟨w1.heap.size, 3, none⟩ = some (.int .u64 u1.b) := cell_of_row _ _ 3 _ _ _ hA4.out; have b4 : w4.cell? ⟨w1.heap.size, 4, none⟩ = some (.int .u64 u1.c) := cell_of_row _ _ 4 _ _ _ hA4.out; have b5 : w4.cell? ⟨w1.heap.size, 5, none⟩ = some (.int .u64 u1.d) := cell_of_row _ _ 5 _ _ _ hA4.out; have b6 : w4.cell? ⟨w1.heap.size, 6, none⟩ = some (.slice ad1 n1 cap1) := cell_of_row _ _ 6 _ _ _ hA4.out; have b7 : w4.cell? ⟨w1.heap.size, 7, none⟩ = some (.int .i64 mn1) := cell_of_row _ _ 7 _ _ _ hA4.out; have b8 : w4.cell? ⟨w1.heap.size, 8, none⟩ = some (.int .i64 mx1) := cell_of_row _ _ 8 _ _ _ hA4.out) | (go_at_call 9; refine (check_ok ((okr_of HR.out).up (m := 200) (by omega)) rfl (fun _ => True) _ _ (ReIn.frame (F' := fun _ => True) (fun _ _ _ => trivial) (fun q _ hq => (hb4.block q (by simp; omega)).trans ((alloc_old (by omega)).trans ((hb3.block q (by simp; omega)).trans ((alloc_old (by omega)).trans ((hb2.block q (by simp; omega)).trans (alloc_old hq)))))) Hr1.out)).mono ?_; rintro e w5 ⟨rfl, hb5⟩))
    have s5 := hb5.size
    have fA := hid ((hb5.block w1.heap.size (by omega)).trans hA4.out)
    have fB := hid ((hb5.block w2.heap.size (by omega)).trans ((hb4.block w2.heap.size (by simp; omega)).trans ((alloc_old (by omega)).trans ((hb3.block w2.heap.size (by simp)).trans (heap_alloc_new w2 (.cells (reC k2 x2 u2 (.slice ad2 n2 cap2) mn2 mx2) 27))))))
    have rA := hid (ReIn.frame (F' := fun _ => True) (w' := w5) (fun _ _ _ => trivial) (fun q _ hq => (hb5.block q (by omega)).trans ((hb4.block q (by simp; omega)).trans ((alloc_old (by omega)).trans ((hb3.block q (by simp; omega)).trans ((alloc_old (by omega)).trans ((hb2.block q (by simp; omega)).trans (alloc_old hq))))))) Hr1.out)
    have rB := hid (ReIn.frame (F' := fun _ => True) (w' := w5) (fun _ _ _ => trivial) (fun q _ hq => (hb5.block q (by omega)).trans ((hb4.block q (by simp; omega)).trans ((alloc_old (by omega)).trans ((hb3.block q (by simp; omega)).trans (alloc_old hq))))) Hr2.out)
    have hw5 : Below w.heap.size w w5 := bnext (bnext (bbox (bnext (bbox (bnext (bbox hb1 _) hb2) _) hb3) _) hb4) hb5
    have l1 : w1.heap.size < w2.heap.size := by omega
    have l2 : w2.heap.size < w5.heap.size := by omega
    clear hb1 hb2 hb3 hb4 hb5 Hr1 Hr2 Hr3 hA3 hA4 a0 a1 a2 a3 a4 a5 a6 a7 a8 b0 b1 b2 b3 b4 b5 b6 b7 b8 s2 s3 s4 s5
    go_upto_region 17 with fail
    have hW7 : Below w.heap.size w ((w5.alloc (.cells #[.string (d0 s t), .string (d1 124 s t), .string (d1 38 s t)] 9)).alloc (.cells #[.int .i64 4, .int .i64 5, .int .i64 6] 3)) := (hw5.alloc hw5.size _).alloc (by have := hw5.size; simp; omega) _
    go_loopw [18] (fun v wr => ∃ i : Nat, i ≤ 3 ∧ v = .int .i64 i ∧ Below (w5.heap.size + 2) ((w5.alloc (.cells #[.string (d0 s t), .string (d1 124 s t), .string (d1 38 s t)] 9)).alloc (.cells #[.int .i64 4, .int .i64 5, .int .i64 6] 3)) wr) (fun v _ => 3 - (intOf v).toNat)
    case atStart => exact ⟨0, by omega, rfl, Below.refl _ _⟩
    case round =>
      obtain ⟨i, hi, rfl, hb⟩ := hrel
      have hwr : Below w.heap.size w wr := hW7.trans (hb.mono (by have := hw5.size; omega))
      have hsz : w5.heap.size + 2 ≤ wr.heap.size := by have := hb.size; simp at this; omega
      by_cases hlt : i < 3
      · obtain ⟨str, kd, hstr, hkd, hss, hres⟩ := rounds s t h1 h2 HR.out HQ.out i hlt
        have cS : wr.cell? ⟨w5.heap.size, i, none⟩ = some (.string str) := (cell_of_row _ _ i _ _ _ ((hb.block w5.heap.size (by omega)).trans (heap_alloc2_old _ _ _))).trans hstr
        have hi3 : (i : Int) < 3 := by omega
        rcases hres with hres | ⟨pp, hres⟩
        · have HRES := hid hres
          clear hres
          go_upto_region 20 with (go_at_call 6; refine (parse_any str _ hss).mono ?_; rintro e w6 hp; obtain ⟨hb6, k6, x6, u6, ad6, n6, cap6, mn6, mx6, rfl, hr6⟩ := hp.good HRES.out; have Hr6 := hid hr6; clear hp hr6)
          have hbq0 : Below (w5.heap.size + 2) ((w5.alloc (.cells #[.string (d0 s t), .string (d1 124 s t), .string (d1 38 s t)] 9)).alloc (.cells #[.int .i64 4, .int .i64 5, .int .i64 6] 3)) w6 := hb.trans (hb6.mono hsz)
          have hbq : Below (w5.heap.size + 2) ((w5.alloc (.cells #[.string (d0 s t), .string (d1 124 s t), .string (d1 38 s t)] 9)).alloc (.cells #[.int .i64 4, .int .i64 5, .int .i64 6] 3)) (w6.alloc (.cells (reC k6 x6 u6 (.slice ad6 n6 cap6) mn6 mx6) 27)) := hbq0.alloc (by have := hbq0.size; simp at this; omega) _
          have s6 : w5.heap.size + 2 ≤ w6.heap.size := by have := hbq0.size; simpa using this
          have qC : (w6.alloc (.cells (reC k6 x6 u6 (.slice ad6 n6 cap6) mn6 mx6) 27)).heap[w6.heap.size]? = some (.cells (reC k6 x6 u6 (.slice ad6 n6 cap6) mn6 mx6) 27 (0, 0)) := heap_alloc_new _ _
          have qA : (w6.alloc (.cells (reC k6 x6 u6 (.slice ad6 n6 cap6) mn6 mx6) 27)).heap[w1.heap.size]? = some (.cells (reC k1 x1 u1 (.slice ad1 n1 cap1) mn1 mx1) 27 (0, 0)) := (hbq.block _ (by omega)).trans ((alloc_old (by simp; omega)).trans ((alloc_old (by omega)).trans fA.out))
          have qB : (w6.alloc (.cells (reC k6 x6 u6 (.slice ad6 n6 cap6) mn6 mx6) 27)).heap[w2.heap.size]? = some (.cells (reC k2 x2 u2 (.slice ad2 n2 cap2) mn2 mx2) 27 (0, 0)) := (hbq.block _ (by omega)).trans ((alloc_old (by simp; omega)).trans ((alloc_old (by omega)).trans fB.out))
          have qK : (w6.alloc (.cells (reC k6 x6 u6 (.slice ad6 n6 cap6) mn6 mx6) 27)).cell? ⟨w5.heap.size + 1, i, none⟩ = some (.int .i64 kd) := (cell_of_row _ _ i _ _ _ ((hbq.block (w5.heap.size + 1) (by omega)).trans (heap_alloc2_new _ _ _))).trans hkd
          have tC := ReIn.frame (F' := fun _ => True) (w' := w6.alloc (.cells (reC k6 x6 u6 (.slice ad6 n6 cap6) mn6 mx6) 27)) (fun _ _ _ => trivial) (fun q _ hq => alloc_old hq) Hr6.out
          have tA := ReIn.frame (F := fun _ => True) (F' := fun _ => True) (w := w5) (w' := w6.alloc (.cells (reC k6 x6 u6 (.slice ad6 n6 cap6) mn6 mx6) 27)) (fun _ _ _ => trivial) (fun q _ hq => (hbq.block q (by omega)).trans ((alloc_old (by simp; omega)).trans (alloc_old hq))) rA.out
          have tB := ReIn.frame (F := fun _ => True) (F' := fun _ => True) (w := w5) (w' := w6.alloc (.cells (reC k6 x6 u6 (.slice ad6 n6 cap6) mn6 mx6) 27)) (fun _ _ _ => trivial) (fun q _ hq => (hbq.block q (by omega)).trans ((alloc_old (by simp; omega)).trans (alloc_old hq))) rB.out
          generalize w6.alloc (.cells (reC k6 x6 u6 (.slice ad6 n6 cap6) mn6 mx6) 27) = wq at *
          have l6 : w6.heap.size < wq.heap.size := (Array.getElem?_eq_some_iff.1 qC).1
          have hnew : (wq.drew.alloc (.cells #[.int .i64 k1, .string ⟨x1.toArray⟩, .int .u64 u1.a, .int .u64 u1.b, .int .u64 u1.c, .int .u64 u1.d, .slice ad1 n1 cap1, .int .i64 mn1, .int .i64 mx1, .int .i64 k2, .string ⟨x2.toArray⟩, .int .u64 u2.a, .int .u64 u2.b, .int .u64 u2.c, .int .u64 u2.d, .slice ad2 n2 cap2, .int .i64 mn2, .int .i64 mx2] 27)).heap[wq.heap.size]? = some (.cells #[.int .i64 k1, .string ⟨x1.toArray⟩, .int .u64 u1.a, .int .u64 u1.b, .int .u64 u1.c, .int .u64 u1.d, .slice ad1 n1 cap1, .int .i64 mn1, .int .i64 mx1, .int .i64 k2, .string ⟨x2.toArray⟩, .int .u64 u2.a, .int .u64 u2.b, .int .u64 u2.c, .int .u64 u2.d, .slice ad2 n2 cap2, .int .i64 mn2, .int .i64 mx2] 27) := heap_alloc_new _ _
          have mC := hid (ReIn.frame (F := fun _ => True) (F' := fun _ => True) (w := wq) (w' := wq.drew.alloc (.cells #[.int .i64 k1, .string ⟨x1.toArray⟩, .int .u64 u1.a, .int .u64 u1.b, .int .u64 u1.c, .int .u64 u1.d, .slice ad1 n1 cap1, .int .i64 mn1, .int .i64 mx1, .int .i64 k2, .string ⟨x2.toArray⟩, .int .u64 u2.a, .int .u64 u2.b, .int .u64 u2.c, .int .u64 u2.d, .slice ad2 n2 cap2, .int .i64 mn2, .int .i64 mx2] 27)) (fun _ _ _ => trivial) (fun q _ hq => alloc_old hq) tC)
          have mA := ReIn.frame (F := fun _ => True) (F' := fun _ => True) (w := wq) (w' := wq.drew.alloc (.cells #[.int .i64 k1, .string ⟨x1.toArray⟩, .int .u64 u1.a, .int .u64 u1.b, .int .u64 u1.c, .int .u64 u1.d, .slice ad1 n1 cap1, .int .i64 mn1, .int .i64 mx1, .int .i64 k2, .string ⟨x2.toArray⟩, .int .u64 u2.a, .int .u64 u2.b, .int .u64 u2.c, .int .u64 u2.d, .slice ad2 n2 cap2, .int .i64 mn2, .int .i64 mx2] 27)) (fun _ _ _ => trivial) (fun q _ hq => alloc_old hq) tA
          have mB := ReIn.frame (F := fun _ => True) (F' := fun _ => True) (w := wq) (w' := wq.drew.alloc (.cells #[.int .i64 k1, .string ⟨x1.toArray⟩, .int .u64 u1.a, .int .u64 u1.b, .int .u64 u1.c, .int .u64 u1.d, .slice ad1 n1 cap1, .int .i64 mn1, .int .i64 mx1, .int .i64 k2, .string ⟨x2.toArray⟩, .int .u64 u2.a, .int .u64 u2.b, .int .u64 u2.c, .int .u64 u2.d, .slice ad2 n2 cap2, .int .i64 mn2, .int .i64 mx2] 27)) (fun _ _ _ => trivial) (fun q _ hq => alloc_old hq) tB
          have mT := hid (mkNode (k := kd) (x := []) (s := Se.none) (ps := [r, q]) (mn := 0) (mx := 0) hnew trivial (by unfold PartsIn PartsIn PartsIn; exact ⟨_, _, rfl, mA, _, [], rfl, mB, rfl⟩) rfl (by simp [maxLen]))
          have hbn : Below (w5.heap.size + 2) ((w5.alloc (.cells #[.string (d0 s t), .string (d1 124 s t), .string (d1 38 s t)] 9)).alloc (.cells #[.int .i64 4, .int .i64 5, .int .i64 6] 3)) (wq.drew.alloc (.cells #[.int .i64 k1, .string ⟨x1.toArray⟩, .int .u64 u1.a, .int .u64 u1.b, .int .u64 u1.c, .int .u64 u1.d, .slice ad1 n1 cap1, .int .i64 mn1, .int .i64 mx1, .int .i64 k2, .string ⟨x2.toArray⟩, .int .u64 u2.a, .int .u64 u2.b, .int .u64 u2.c, .int .u64 u2.d, .slice ad2 n2 cap2, .int .i64 mn2, .int .i64 mx2] 27)) := hbq.drew.alloc (by show _ ≤ wq.heap.size; omega) _
          have HBN := hid hbn
          have sq : w5.heap.size + 2 ≤ wq.heap.size := by omega
          have c0 : wq.cell? ⟨w6.heap.size, 0, none⟩ = some (.int .i64 k6) := cell_of_row _ _ 0 _ _ _ qC
          have c1 : wq.cell? ⟨w6.heap.size, 1, none⟩ = some (.string ⟨x6.toArray⟩) := cell_of_row _ _ 1 _ _ _ qC
          have c2 : wq.cell? ⟨w6.heap.size, 2, none⟩ = some (.int .u64 u6.a) := cell_of_row _ _ 2 _ _ _ qC
          have c3 : wq.cell? ⟨w6.heap.size, 3, none⟩ = some (.int .u64 u6.b) := cell_of_row _ _ 3 _ _ _ qC
          have c4 : wq.cell? ⟨w6.heap.size, 4, none⟩ = some (.int .u64 u6.c) := cell_of_row _ _ 4 _ _ _ qC
          have c5 : wq.cell? ⟨w6.heap.size, 5, none⟩ = some (.int .u64 u6.d) := cell_of_row _ _ 5 _ _ _ qC
          have c6 : wq.cell? ⟨w6.heap.size, 6, none⟩ = some (.slice ad6 n6 cap6) := cell_of_row _ _ 6 _ _ _ qC
          have c7 : wq.cell? ⟨w6.heap.size, 7, none⟩ = some (.int .i64 mn6) := cell_of_row _ _ 7 _ _ _ qC
          have c8 : wq.cell? ⟨w6.heap.size, 8, none⟩ = some (.int .i64 mx6) := cell_of_row _ _ 8 _ _ _ qC
          have a0 : wq.cell? ⟨w1.heap.size, 0, none⟩ = some (.int .i64 k1) := cell_of_row _ _ 0 _ _ _ qA
          have a1 : wq.cell? ⟨w1.heap.size, 1, none⟩ = some (.string ⟨x1.toArray⟩) := cell_of_row _ _ 1 _ _ _ qA
          have a2 : wq.cell? ⟨w1.heap.size, 2, none⟩ = some (.int .u64 u1.a) := cell_of_row _ _ 2 _ _ _ qA
          have a3 : wq.cell? ⟨w1.heap.size, 3, none⟩ = some (.int .u64 u1.b) := cell_of_row _ _ 3 _ _ _ qA
          have a4 : wq.cell? ⟨w1.heap.size, 4, none⟩ = some (.int .u64 u1.c) := cell_of_row _ _ 4 _ _ _ qA
          have a5 : wq.cell? ⟨w1.heap.size, 5, none⟩ = some (.int .u64 u1.d) := cell_of_row _ _ 5 _ _ _ qA
          have a6 : wq.cell? ⟨w1.heap.size, 6, none⟩ = some (.slice ad1 n1 cap1) := cell_of_row _ _ 6 _ _ _ qA
          have a7 : wq.cell? ⟨w1.heap.size, 7, none⟩ = some (.int .i64 mn1) := cell_of_row _ _ 7 _ _ _ qA
          have a8 : wq.cell? ⟨w1.heap.size, 8, none⟩ = some (.int .i64 mx1) := cell_of_row _ _ 8 _ _ _ qA
          have b0 : wq.cell? ⟨w2.heap.size, 0, none⟩ = some (.int .i64 k2) := cell_of_row _ _ 0 _ _ _ qB
          have b1 : wq.cell? ⟨w2.heap.size, 1, none⟩ = some (.string ⟨x2.toArray⟩) := cell_of_row _ _ 1 _ _ _ qB
          have b2 : wq.cell? ⟨w2.heap.size, 2, none⟩ = some (.int .u64 u2.a) := cell_of_row _ _ 2 _ _ _ qB
          have b3 : wq.cell? ⟨w2.heap.size, 3, none⟩ = some (.int .u64 u2.b) := cell_of_row _ _ 3 _ _ _ qB
          have b4 : wq.cell? ⟨w2.heap.size, 4, none⟩ = some (.int .u64 u2.c) := cell_of_row _ _ 4 _ _ _ qB
          have b5 : wq.cell? ⟨w2.heap.size, 5, none⟩ = some (.int .u64 u2.d) := cell_of_row _ _ 5 _ _ _ qB
          have b6 : wq.cell? ⟨w2.heap.size, 6, none⟩ = some (.slice ad2 n2 cap2) := cell_of_row _ _ 6 _ _ _ qB
          have b7 : wq.cell? ⟨w2.heap.size, 7, none⟩ = some (.int .i64 mn2) := cell_of_row _ _ 7 _ _ _ qB
          have b8 : wq.cell? ⟨w2.heap.size, 8, none⟩ = some (.int .i64 mx2) := cell_of_row _ _ 8 _ _ _ qB
          clear qC qA qB tC tA tB mA mB hnew hb6 hbq hbq0 hbn hb cS hstr hkd
          have hS := hid (show ∀ W : World, Below wq.heap.size wq W → W.cell? ⟨w6.heap.size, 0, none⟩ = some (.int .i64 k6) ∧ W.cell? ⟨w6.heap.size, 1, none⟩ = some (.string ⟨x6.toArray⟩) ∧ W.cell? ⟨w6.heap.size, 2, none⟩ = some (.int .u64 u6.a) ∧ W.cell? ⟨w6.heap.size, 3, none⟩ = some (.int .u64 u6.b) ∧ W.cell? ⟨w6.heap.size, 4, none⟩ = some (.int .u64 u6.c) ∧ W.cell? ⟨w6.heap.size, 5, none⟩ = some (.int .u64 u6.d) ∧ W.cell? ⟨w6.heap.size, 6, none⟩ = some (.slice ad6 n6 cap6) ∧ W.cell? ⟨w6.heap.size, 7, none⟩ = some (.int .i64 mn6) ∧ W.cell? ⟨w6.heap.size, 8, none⟩ = some (.int .i64 mx6) ∧ W.cell? ⟨w1.heap.size, 0, none⟩ = some (.int .i64 k1) ∧ W.cell? ⟨w1.heap.size, 1, none⟩ = some (.string ⟨x1.toArray⟩) ∧ W.cell? ⟨w1.heap.size, 2, none⟩ = some (.int .u64 u1.a) ∧ W.cell? ⟨w1.heap.size, 3, none⟩ = some (.int .u64 u1.b) ∧ W.cell? ⟨w1.heap.size, 4, none⟩ = some (.int .u64 u1.c) ∧ W.cell? ⟨w1.heap.size, 5, none⟩ = some (.int .u64 u1.d) ∧ W.cell? ⟨w1.heap.size, 6, none⟩ = some (.slice ad1 n1 cap1) ∧ W.cell? ⟨w1.heap.size, 7, none⟩ = some (.int .i64 mn1) ∧ W.cell? ⟨w1.heap.size, 8, none⟩ = some (.int .i64 mx1) ∧ W.cell? ⟨w2.heap.size, 0, none⟩ = some (.int .i64 k2) ∧ W.cell? ⟨w2.heap.size, 1, none⟩ = some (.string ⟨x2.toArray⟩) ∧ W.cell? ⟨w2.heap.size, 2, none⟩ = some (.int .u64 u2.a) ∧ W.cell? ⟨w2.heap.size, 3, none⟩ = some (.int .u64 u2.b) ∧ W.cell? ⟨w2.heap.size, 4, none⟩ = some (.int .u64 u2.c) ∧ W.cell? ⟨w2.heap.size, 5, none⟩ = some (.int .u64 u2.d) ∧ W.cell? ⟨w2.heap.size, 6, none⟩ = some (.slice ad2 n2 cap2) ∧ W.cell? ⟨w2.heap.size, 7, none⟩ = some (.int .i64 mn2) ∧ W.cell? ⟨w2.heap.size, 8, none⟩ = some (.int .i64 mx2) ∧ W.cell? ⟨w5.heap.size + 1, i, none⟩ = some (.int .i64 kd) from fun W hW => ⟨(hW.cell (by dsimp only; omega)).trans c0, (hW.cell (by dsimp only; omega)).trans c1, (hW.cell (by dsimp only; omega)).trans c2, (hW.cell (by dsimp only; omega)).trans c3, (hW.cell (by dsimp only; omega)).trans c4, (hW.cell (by dsimp only; omega)).trans c5, (hW.cell (by dsimp only; omega)).trans c6, (hW.cell (by dsimp only; omega)).trans c7, (hW.cell (by dsimp only; omega)).trans c8, (hW.cell (by dsimp only; omega)).trans a0, (hW.cell (by dsimp only; omega)).trans a1, (hW.cell (by dsimp only; omega)).trans a2, (hW.cell (by dsimp only; omega)).trans a3, (hW.cell (by dsimp only; omega)).trans a4, (hW.cell (by dsimp only; omega)).trans a5, (hW.cell (by dsimp only; omega)).trans a6, (hW.cell (by dsimp only; omega)).trans a7, (hW.cell (by dsimp only; omega)).trans a8, (hW.cell (by dsimp only; omega)).trans b0, (hW.cell (by dsimp only; omega)).trans b1, (hW.cell (by dsimp only; omega)).trans b2, (hW.cell (by dsimp only; omega)).trans b3, (hW.cell (by dsimp only; omega)).trans b4, (hW.cell (by dsimp only; omega)).trans b5, (hW.cell (by dsimp only; omega)).trans b6, (hW.cell (by dsimp only; omega)).trans b7, (hW.cell (by dsimp only; omega)).trans b8, (hW.cell (by dsimp only; omega)).trans qK⟩)
          have hd0 := hid (Below.drew (Below.refl wq.heap.size wq))
          have hd1 := hid (Below.alloc (Below.drew (Below.refl wq.heap.size wq)) (Nat.le_refl _) (.cells #[.int .i64 k1, .string ⟨x1.toArray⟩, .int .u64 u1.a, .int .u64 u1.b, .int .u64 u1.c, .int .u64 u1.d, .slice ad1 n1 cap1, .int .i64 mn1, .int .i64 mx1, .int .i64 k2, .string ⟨x2.toArray⟩, .int .u64 u2.a, .int .u64 u2.b, .int .u64 u2.c, .int .u64 u2.d, .slice ad2 n2 cap2, .int .i64 mn2, .int .i64 mx2] 27))
          go_cut [136] (fun s136 wx => s136 = .bool false ∧ Below (w5.heap.size + 2) ((w5.alloc (.cells #[.string (d0 s t), .string (d1 124 s t), .string (d1 38 s t)] 9)).alloc (.cells #[.int .i64 4, .int .i64 5, .int .i64 6] 3)) wx)
          case first =>
            go_region_held3 (fun W => W.cell? ⟨w6.heap.size, 0, none⟩ = some (.int .i64 k6) ∧ W.cell? ⟨w6.heap.size, 1, none⟩ = some (.string ⟨x6.toArray⟩) ∧ W.cell? ⟨w6.heap.size, 2, none⟩ = some (.int .u64 u6.a) ∧ W.cell? ⟨w6.heap.size, 3, none⟩ = some (.int .u64 u6.b) ∧ W.cell? ⟨w6.heap.size, 4, none⟩ = some (.int .u64 u6.c) ∧ W.cell? ⟨w6.heap.size, 5, none⟩ = some (.int .u64 u6.d) ∧ W.cell? ⟨w6.heap.size, 6, none⟩ = some (.slice ad6 n6 cap6) ∧ W.cell? ⟨w6.heap.size, 7, none⟩ = some (.int .i64 mn6) ∧ W.cell? ⟨w6.heap.size, 8, none⟩ = some (.int .i64 mx6) ∧ W.cell? ⟨w1.heap.size, 0, none⟩ = some (.int .i64 k1) ∧ W.cell? ⟨w1.heap.size, 1, none⟩ = some (.string ⟨x1.toArray⟩) ∧ W.cell? ⟨w1.heap.size, 2, none⟩ = some (.int .u64 u1.a) ∧ W.cell? ⟨w1.heap.size, 3, none⟩ = some (.int .u64 u1.b) ∧ W.cell? ⟨w1.heap.size, 4, none⟩ = some (.int .u64 u1.c) ∧ W.cell? ⟨w1.heap.size, 5, none⟩ = some (.int .u64 u1.d) ∧ W.cell? ⟨w1.heap.size, 6, none⟩ = some (.slice ad1 n1 cap1) ∧ W.cell? ⟨w1.heap.size, 7, none⟩ = some (.int .i64 mn1) ∧ W.cell? ⟨w1.heap.size, 8, none⟩ = some (.int .i64 mx1) ∧ W.cell? ⟨w2.heap.size, 0, none⟩ = some (.int .i64 k2) ∧ W.cell? ⟨w2.heap.size, 1, none⟩ = some (.string ⟨x2.toArray⟩) ∧ W.cell? ⟨w2.heap.size, 2, none⟩ = some (.int .u64 u2.a) ∧ W.cell? ⟨w2.heap.size, 3, none⟩ = some (.int .u64 u2.b) ∧ W.cell? ⟨w2.heap.size, 4, none⟩ = some (.int .u64 u2.c) ∧ W.cell? ⟨w2.heap.size, 5, none⟩ = some (.int .u64 u2.d) ∧ W.cell? ⟨w2.heap.size, 6, none⟩ = some (.slice ad2 n2 cap2) ∧ W.cell? ⟨w2.heap.size, 7, none⟩ = some (.int .i64 mn2) ∧ W.cell? ⟨w2.heap.size, 8, none⟩ = some (.int .i64 mx2) ∧ W.cell? ⟨w5.heap.size + 1, i, none⟩ = some (.int .i64 kd)) (first | exact hS.out _ hd0.out | exact hS.out _ hd1.out | exact hS.out _ (hd1.out.trans (hb8.mono (by simp)))) (first | (go_at_call 8; refine (same_yes _ _ (Nat.lt_succ_self _) _ _ _ _ _ mC.out mT.out).mono ?_; rintro e w8 ⟨rfl, hb8⟩))
            all_goals (go_wp2_with fail; go_meet; exact ⟨rfl, HBN.out.trans (hb8.mono (by simp; omega))⟩)
          case rest =>
            obtain ⟨rfl, hbw⟩ := hcut
            go_wp2
            go_roundw
            case rel => exact ⟨i + 1, by omega, by go_num, hbw⟩
            case measure => simp [intOf]; omega
        · have HRES := hid hres
          clear hres
          go_upto_region 20 with (go_at_call 6; refine (parse_any str _ hss).mono ?_; rintro e w6 hp; obtain ⟨hb6, rfl⟩ := hp.bad HRES.out; clear hp)
          have hbq0 := hb.trans (hb6.mono hsz)
          have s6 := hb6.size
          go_region
          all_goals go_wp2
          go_roundw
          case rel => exact ⟨i + 1, by omega, by go_num, (hbq0.alloc (by omega) _).drew⟩
          case measure => simp [intOf]; omega
      · obtain rfl : i = 3 := by omega
        have zB := sB_size s
        have hzs : (sB s).size ≤ 65536 := by omega
        have hbs := brk_star HR.out (sB_list s) hzs
        have BA := hid ((hb.block w1.heap.size (by omega)).trans ((alloc_old (by simp; omega)).trans ((alloc_old (by omega)).trans fA.out)))
        have TA := hid (ReIn.frame (F := fun _ => True) (F' := fun _ => True) (w := w5) (w' := wr) (fun _ _ _ => trivial) (fun q _ hq => (hb.block q (by omega)).trans ((alloc_old (by simp; omega)).trans (alloc_old hq))) rA.out)
        clear hb fA rA rB fB
        rcases hbs with hbs | ⟨pp, hbs⟩
        · have HB := hid hbs
          clear hbs
          go_wp2_with (first | (go_at_call 6; refine (parse_any (sB s) _ hzs).mono ?_; rintro e w6 hp; obtain ⟨hb6, k6, x6, u6, ad6, n6, cap6, mn6, mx6, rfl, hr6⟩ := hp.good HB.out; have Hr6 := hid hr6; clear hp hr6; have s6 := hb6.size; have BB := hid ((alloc_old (o := .cells (reC k6 x6 u6 (.slice ad6 n6 cap6) mn6 mx6) 27) (w := w6) (k := w1.heap.size) (by omega)).trans ((hb6.block w1.heap.size (by omega)).trans BA.out)); obtain ⟨a0, a1, a2, a3, a4, a5, a6, a7, a8⟩ := cells9 BB.out) | (go_at_call 7; refine (awake_any _).mono ?_; rintro e w7 ⟨rfl, hb7⟩; have s7 := hb7.size; simp only [World.size_alloc] at s7; have BC := hid ((hb7.block w6.heap.size (by simp; omega)).trans ((alloc_old (by simp; omega)).trans ((alloc_old (by simp)).trans (heap_alloc_new w6 (.cells (reC k6 x6 u6 (.slice ad6 n6 cap6) mn6 mx6) 27))))); have BS := hid ((hb7.block (w6.heap.size + 1 + 1) (by simp)).trans (show (((w6.alloc (.cells (reC k6 x6 u6 (.slice ad6 n6 cap6) mn6 mx6) 27)).alloc (.cells (reC k1 x1 u1 (.slice ad1 n1 cap1) mn1 mx1) 27)).alloc (.cells (reC 8 [] Se.none (.slice (some ⟨w6.heap.size + 1, 0, none⟩) 1 1) 0 (-1)) 27)).heap[w6.heap.size + 1 + 1]? = some (.cells (reC 8 [] Se.none (.slice (some ⟨w6.heap.size + 1, 0, none⟩) 1 1) 0 (-1)) 27 (0, 0)) by have h := heap_alloc_new ((w6.alloc (.cells (reC k6 x6 u6 (.slice ad6 n6 cap6) mn6 mx6) 27)).alloc (.cells (reC k1 x1 u1 (.slice ad1 n1 cap1) mn1 mx1) 27)) (.cells (reC 8 [] Se.none (.slice (some ⟨w6.heap.size + 1, 0, none⟩) 1 1) 0 (-1)) 27); simpa using h)); obtain ⟨c0, c1, c2, c3, c4, c5, c6, c7, c8⟩ := cells9 BC.out; obtain ⟨d0, d1, d2, d3, d4, d5, d6, d7, d8⟩ := cells9 BS.out; have mC := hid (ReIn.frame (F' := fun _ => True) (w' := (w7.alloc (.cells (reC 8 [] Se.none (.slice (some ⟨w6.heap.size + 1, 0, none⟩) 1 1) 0 (-1)) 27))) (fun _ _ _ => trivial) (fun q _ hq => (alloc_old (by omega)).trans ((hb7.block q (by simp; omega)).trans ((alloc_old (by simp; omega)).trans ((alloc_old (by simp; omega)).trans (alloc_old hq))))) Hr6.out); have tA8 := ReIn.frame (F := fun _ => True) (F' := fun _ => True) (w := wr) (w' := (w7.alloc (.cells (reC 8 [] Se.none (.slice (some ⟨w6.heap.size + 1, 0, none⟩) 1 1) 0 (-1)) 27))) (fun _ _ _ => trivial) (fun q _ hq => (alloc_old (by omega)).trans ((hb7.block q (by simp; omega)).trans ((alloc_old (by simp; omega)).trans ((alloc_old (by simp; omega)).trans ((alloc_old (by omega)).trans (hb6.block q hq)))))) TA.out; have tS8 := mkNode (F := fun _ => True) (k := 8) (x := []) (s := Se.none) (ps := [r]) (mn := 0) (mx := -1) (w := (w7.alloc (.cells (reC 8 [] Se.none (.slice (some ⟨w6.heap.size + 1, 0, none⟩) 1 1) 0 (-1)) 27))) ((alloc_old (by omega)).trans ((hb7.block (w6.heap.size + 1) (by simp)).trans ((alloc_old (by simp)).trans (show ((w6.alloc (.cells (reC k6 x6 u6 (.slice ad6 n6 cap6) mn6 mx6) 27)).alloc (.cells (reC k1 x1 u1 (.slice ad1 n1 cap1) mn1 mx1) 27)).heap[w6.heap.size + 1]? = some (.cells (reC k1 x1 u1 (.slice ad1 n1 cap1) mn1 mx1) 27 (0, 0)) by have h := heap_alloc_new (w6.alloc (.cells (reC k6 x6 u6 (.slice ad6 n6 cap6) mn6 mx6) 27)) (.cells (reC k1 x1 u1 (.slice ad1 n1 cap1) mn1 mx1) 27); simpa using h)))) trivial (by unfold PartsIn PartsIn; exact ⟨_, [], rfl, tA8, rfl⟩) rfl (by simp [maxLen]); have mT := hid (mkNode (F := fun _ => True) (k := 7) (x := []) (s := Se.none) (ps := [.mk 8 [] Se.none [r] 0 (-1)]) (mn := 0) (mx := 0) (w := (w7.alloc (.cells (reC 8 [] Se.none (.slice (some ⟨w6.heap.size + 1, 0, none⟩) 1 1) 0 (-1)) 27))) (heap_alloc_new w7 (.cells (reC 8 [] Se.none (.slice (some ⟨w6.heap.size + 1, 0, none⟩) 1 1) 0 (-1)) 27)) trivial (by unfold PartsIn PartsIn; exact ⟨_, [], rfl, tS8, rfl⟩) rfl (by simp [maxLen])); clear tA8 tS8) | (go_at_call 8; go_loud (refine (same_yes _ _ (Nat.lt_succ_self _) _ _ _ _ _ mC.out mT.out).mono ?_; rintro e w8 ⟨rfl, hb8⟩)))
          go_ret
          exact ⟨rfl, bnext (bbox (bnext (bbox (bbox (bbox (bnext hwr hb6) _) _) _) hb7) _) hb8⟩
        · have HB := hid hbs
          clear hbs
          go_wp2_with (first | (go_at_call 6; refine (parse_any (sB s) _ hzs).mono ?_; rintro e w6 hp; obtain ⟨hb6, rfl⟩ := hp.bad HB.out; clear hp; have s6 := hb6.size; have BB := hid ((alloc_old (o := .cells reZ 27) (w := w6) (k := w1.heap.size) (by omega)).trans ((hb6.block w1.heap.size (by omega)).trans BA.out)); obtain ⟨a0, a1, a2, a3, a4, a5, a6, a7, a8⟩ := cells9 BB.out) | (go_at_call 7; go_loud (refine (awake_any _).mono ?_; rintro e w7 ⟨rfl, hb7⟩)))
          go_ret
          exact ⟨rfl, bnext (bbox (bbox (bbox (bnext hwr hb6) _) _) _) hb7⟩
  · have HC := hid hone
    clear hone
    go_enter Try.func3, Try.ntmps3
    go_wp2_with (first | (go_at_call_of 6 (Value.string s); refine (parse_any s _ hs).mono ?_; rintro e w1 hp; obtain ⟨hb1, k1, x1, u1, ad1, n1, cap1, mn1, mx1, rfl, hr1⟩ := hp.good HR.out; clear hp hr1) | (go_at_call_of 6 (Value.string t); refine (parse_any t _ ht).mono ?_; rintro e w2 hp; obtain ⟨hb2, k2, x2, u2, ad2, n2, cap2, mn2, mx2, rfl, hr2⟩ := hp.good HQ.out; clear hp hr2) | (go_at_call 6; refine (parse_any (cB s) _ hcz).mono ?_; rintro e w3 hp; obtain ⟨hb3, rfl⟩ := hp.bad HC.out; clear hp) | (go_at_call 7; refine (awake_any _).mono ?_; rintro e w4 ⟨rfl, hb4⟩))
    go_ret
    exact ⟨rfl, bnext (bbox (bnext (bbox (bnext (bbox hb1 _) hb2) _) hb3) _) hb4⟩
end Go.Proofs.Ytcedjjlflahpcaa
