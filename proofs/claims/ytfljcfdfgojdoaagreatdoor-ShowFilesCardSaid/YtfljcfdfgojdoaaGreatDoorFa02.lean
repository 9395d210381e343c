/-
  The contracts of set.Not, set.Any and set.Span, without a condition.
  The contract of lex.quoted, for a text of no more than 2^47 bytes.
-/
import Derived.Test.YtfljcfdfgojdoaaGreatDoorFa01
import Derived.Laws.BytesString
namespace Go.Proofs.YtfljcfdfgojdoaaGreatDoor
open Go.RowKit Go.Lib

abbrev Se.v (s : Se) : Value := .agg #[.int .u64 s.a, .int .u64 s.b, .int .u64 s.c, .int .u64 s.d]
def notS (s : Se) : Se := ⟨bits .xor .u64 IntKind.u64.max s.a, bits .xor .u64 IntKind.u64.max s.b, bits .xor .u64 IntKind.u64.max s.c, bits .xor .u64 IntKind.u64.max s.d⟩
def anyS (s t : Se) : Se := ⟨bits .or .u64 s.a t.a, bits .or .u64 s.b t.b, bits .or .u64 s.c t.c, bits .or .u64 s.d t.d⟩

set_option maxHeartbeats 1000000 in
theorem not_any (s : Se) (w : World) :
    Calls Tryz.prog 142 #[s.v] w fun e w' => e = .returned (notS s).v ∧ Below w.heap.size w w' := by
  obtain ⟨a, b, c, d⟩ := s
  go_enter Tryz.func142, Tryz.ntmps142
  go_wp2
  refine wp_loop_rounds 5 ?_
  iterate 5 (rw [rounds_succ]; go_wp2)
  exact bodyPost_ret (v := (notS ⟨a, b, c, d⟩).v) (by simp [results, Tryz.results142, go_sem, notS]) rfl ⟨rfl, ((Below.refl _ _).alloc (Nat.le_refl _) _).alloc (by simp) _⟩

set_option maxHeartbeats 2000000 in
theorem any_any (s t : Se) (w : World) :
    Calls Tryz.prog 226 #[s.v, t.v] w fun e w' => e = .returned (anyS s t).v ∧ Below w.heap.size w w' := by
  obtain ⟨a, b, c, d⟩ := s
  obtain ⟨a', b', c', d'⟩ := t
  go_enter Tryz.func226, Tryz.ntmps226
  go_wp2
  refine wp_loop_rounds 5 ?_
  iterate 4 (rw [rounds_succ]; go_wp2; go_region; go_wp2)
  rw [rounds_succ]; go_wp2
  exact bodyPost_ret (v := (anyS ⟨a, b, c, d⟩ ⟨a', b', c', d'⟩).v) (by simp [results, Tryz.results226, go_sem, anyS]) rfl ⟨rfl, (((((((Below.refl _ _).alloc (Nat.le_refl _) _).alloc (by simp) _).alloc (by simp; omega) _).drew).drew).drew).drew⟩

def orBit (s : Se) (n : Nat) : Se :=
  if n / 64 = 0 then { s with a := bits .or .u64 s.a (IntKind.u64.wrap (2 ^ (n % 64))) } else
  if n / 64 = 1 then { s with b := bits .or .u64 s.b (IntKind.u64.wrap (2 ^ (n % 64))) } else
  if n / 64 = 2 then { s with c := bits .or .u64 s.c (IntKind.u64.wrap (2 ^ (n % 64))) } else
  { s with d := bits .or .u64 s.d (IntKind.u64.wrap (2 ^ (n % 64))) }
def bitsOf (x k : Nat) : Se := (List.range' x k).foldl orBit Se.none
def spanS (x y : B) : Se := bitsOf x.toNat (y.toNat + 1 - x.toNat)
theorem bitsOf_succ (x k : Nat) : bitsOf x (k + 1) = orBit (bitsOf x k) (x + k) := by
  unfold bitsOf
  rw [List.range'_concat, List.foldl_append]
  simp
theorem heap_set {w : World} {g i : Nat} {cs : Array Value} {t : TypeId} (hg : w.heap[g]? = some (.cells cs t (0, 0))) (v : Value) : ((w.setCell ⟨g, i, none⟩ v).drew).heap[g]? = some (.cells (cs.setIfInBounds i v) t (0, 0)) :=
  heap_setCell_same w g i cs t v hg
theorem heap_set_other {w : World} {g i j : Nat} (h : j ≠ g) (v : Value) : ((w.setCell ⟨g, i, none⟩ v).drew).heap[j]? = w.heap[j]? :=
  heap_setCell_other w ⟨g, i, none⟩ j v h
abbrev Se.cs (s : Se) : Array Value := #[.int .u64 s.a, .int .u64 s.b, .int .u64 s.c, .int .u64 s.d]

set_option maxHeartbeats 2000000 in
theorem span_any (x y : B) (w : World) :
    Calls Tryz.prog 227 #[.int .u8 x.toNat, .int .u8 y.toNat] w fun e w' => e = .returned (spanS x y).v ∧ Below w.heap.size w w' := by
  have hx := x.toNat_lt
  have hy := y.toNat_lt
  go_enter Tryz.func227, Tryz.ntmps227
  go_wp2
  go_loopw [6] (fun i wr => ∃ k : Nat, (x.toNat + k ≤ y.toNat + 1 ∨ k = 0) ∧ i = .int .i64 ((x.toNat : Int) + k) ∧ wr.heap[w.heap.size]? = some (.cells Se.none.cs 30) ∧ wr.heap[w.heap.size + 1]? = some (.cells (bitsOf x.toNat k).cs 30) ∧ Below w.heap.size w wr) (fun i _ => 256 - (intOf i).toNat)
  case atStart => exact ⟨0, .inr rfl, by simp, heap_alloc2_old _ _ _, heap_alloc2_new _ _ _, ((Below.refl _ _).alloc (Nat.le_refl _) _).alloc (by simp) _⟩
  case round =>
    obtain ⟨k, hk, rfl, hb0, hb1, hbel⟩ := hrel
    have HB0 := hid hb0
    have HB1 := hid hb1
    by_cases hlt : x.toNat + k ≤ y.toNat
    · have hs := hid (bitsOf_succ x.toNat k)
      generalize bitsOf x.toNat k = s at *
      have c0 : wr.cell? ⟨w.heap.size + 1, 0, none⟩ = some (.int .u64 s.a) := cell_of_row _ _ _ _ _ _ hb1
      have c1 : wr.cell? ⟨w.heap.size + 1, 1, none⟩ = some (.int .u64 s.b) := cell_of_row _ _ _ _ _ _ hb1
      have c2 : wr.cell? ⟨w.heap.size + 1, 2, none⟩ = some (.int .u64 s.c) := cell_of_row _ _ _ _ _ _ hb1
      have c3 : wr.cell? ⟨w.heap.size + 1, 3, none⟩ = some (.int .u64 s.d) := cell_of_row _ _ _ _ _ _ hb1
      have f0 : wr.frozen? ⟨w.heap.size + 1, 0, none⟩ = false := frozen_of_row _ _ _ _ _ hb1
      have f1 : wr.frozen? ⟨w.heap.size + 1, 1, none⟩ = false := frozen_of_row _ _ _ _ _ hb1
      have f2 : wr.frozen? ⟨w.heap.size + 1, 2, none⟩ = false := frozen_of_row _ _ _ _ _ hb1
      have f3 : wr.frozen? ⟨w.heap.size + 1, 3, none⟩ = false := frozen_of_row _ _ _ _ _ hb1
      clear hb0 hb1
      have hcase : (x.toNat + k) / 64 = 0 ∨ (x.toNat + k) / 64 = 1 ∨ (x.toNat + k) / 64 = 2 ∨ (x.toNat + k) / 64 = 3 := by omega
      rcases hcase with hq | hq | hq | hq
      all_goals
        have hq' : ((x.toNat : Int) + k) / 64 = _ := (by omega : _ = (((x.toNat + k) / 64 : Nat) : Int)).trans (congrArg _ hq)
        have HQ := hid hq
        clear hq
        simp only [Int.cast_ofNat_Int] at hq'
        go_wp2
        go_region
        go_wp2
        go_roundw
        case rel =>
          refine ⟨k + 1, .inl (by omega), by go_num, (heap_set_other (by omega) _).trans HB0.out, (heap_set HB1.out _).trans ?_, ((hbel.setCell (by simp) _).drew)⟩
          rw [hs.out]
          simp [orBit, HQ.out]
        case measure => simp [intOf]; omega
    · have z0 : wr.cell? ⟨w.heap.size, 0, none⟩ = some (.int .u64 0) := cell_of_row _ _ _ _ _ _ hb0
      have z1 : wr.cell? ⟨w.heap.size, 1, none⟩ = some (.int .u64 0) := cell_of_row _ _ _ _ _ _ hb0
      have z2 : wr.cell? ⟨w.heap.size, 2, none⟩ = some (.int .u64 0) := cell_of_row _ _ _ _ _ _ hb0
      have z3 : wr.cell? ⟨w.heap.size, 3, none⟩ = some (.int .u64 0) := cell_of_row _ _ _ _ _ _ hb0
      have f0 : wr.frozen? ⟨w.heap.size, 0, none⟩ = false := frozen_of_row _ _ _ _ _ hb0
      have f1 : wr.frozen? ⟨w.heap.size, 1, none⟩ = false := frozen_of_row _ _ _ _ _ hb0
      have f2 : wr.frozen? ⟨w.heap.size, 2, none⟩ = false := frozen_of_row _ _ _ _ _ hb0
      have f3 : wr.frozen? ⟨w.heap.size, 3, none⟩ = false := frozen_of_row _ _ _ _ _ hb0
      have hsp : Hid (spanS x y = bitsOf x.toNat k) := by
        show _ = _
        unfold spanS
        congr 1
        omega
      generalize bitsOf x.toNat k = s at *
      have c0 : wr.cell? ⟨w.heap.size + 1, 0, none⟩ = some (.int .u64 s.a) := cell_of_row _ _ _ _ _ _ hb1
      have c1 : wr.cell? ⟨w.heap.size + 1, 1, none⟩ = some (.int .u64 s.b) := cell_of_row _ _ _ _ _ _ hb1
      have c2 : wr.cell? ⟨w.heap.size + 1, 2, none⟩ = some (.int .u64 s.c) := cell_of_row _ _ _ _ _ _ hb1
      have c3 : wr.cell? ⟨w.heap.size + 1, 3, none⟩ = some (.int .u64 s.d) := cell_of_row _ _ _ _ _ _ hb1
      clear hb0 hb1
      go_wp2
      exact bodyPost_ret (v := (spanS x y).v) (by rw [hsp.out]; simp [results, Tryz.results227, go_sem, z0, z1, z2, z3]) rfl ⟨rfl, (((hbel.setCell (by simp) _).setCell (by simp) _).setCell (by simp) _).setCell (by simp) _⟩
end Go.Proofs.YtfljcfdfgojdoaaGreatDoor

namespace Go.Proofs.YtfljcfdfgojdoaaGreatDoor
open Go.RowKit Go.Lib

abbrev bv (c : B) : Value := .int .u8 c.toNat
theorem foldl_push (l : List B) : ∀ (s : ByteArray), (l.map fun c => (c.toNat : Int)).foldl (fun r n => r.push (UInt8.ofNat n.toNat)) s = ⟨s.data ++ l.toArray⟩ := by
  induction l with
  | nil => intro s; simp
  | cons c l ih =>
    intro s
    rw [List.map_cons, List.foldl_cons, ih]
    simp [ByteArray.push]
theorem run_string_own {w : World} {base : Nat} {v : Value} {n : Nat} {bs : List B} (hown : w.ownsRow base 5 1 v n (bs.map bv)) :
    (convert 73 9 v).run Tryz.prog w = .ok (.string ⟨bs.toArray⟩) w := by
  rcases hown.2 with ⟨rfl, rfl⟩ | ⟨g, cap, cur, rfl, hb, hg, h1, h2, h3, h4⟩
  · have : bs = [] := by have := hown.1; simpa using this
    subst this
    rw [run_convert_bytes_string w 73 9 5 _ _ _ Tryz.underlying73 Tryz.underlying5 Tryz.underlying9]
    simp [Conv.bytesToString, Sem.run_pure]
    rfl
  · have hc := hown.cells (g := g) rfl
    have hl : n = bs.length := by have := hown.1; simp at this; omega
    rw [run_convert_bytes_string w 73 9 5 _ _ _ Tryz.underlying73 Tryz.underlying5 Tryz.underlying9]
    have hload : (loadCells ⟨g, 0, none⟩ n).run Tryz.prog w = .ok ((bs.map fun c => (c.toNat : Int)).map (Value.int .u8)).toArray w := by
      have := run_loadCells_list (P := Tryz.prog) w ⟨g, 0, none⟩ (bs.map bv) hc
      rw [hl]
      simpa [List.map_map, Function.comp_def] using this
    rw [run_bytesToString w _ _ _ _ hload, foldl_push]
    simp

theorem info5 : (Tryz.prog.info? 5).map (fun i => (i.zero, i.size, i.bytes)) = some (some (.int .u8 0), 1, 1) := by kernel_rfl
theorem own_shape {w : World} {base e size n : Nat} {v : Value} {xs : List Value} (h : w.ownsRow base e size v n xs) : ∃ a cap, v = .slice a n cap := by
  rcases h.2 with ⟨rfl, rfl⟩ | ⟨g, cap, cur, rfl, _⟩
  · exact ⟨none, 0, rfl⟩
  · exact ⟨_, _, rfl⟩
theorem own_block {w : World} {base e size n g : Nat} {v : Value} {xs : List Value} (h : w.ownsRow base e size v n xs) (hg : v.ownBlock = some g) : base ≤ g := by
  rcases h.2 with ⟨rfl, rfl⟩ | ⟨g', cap, cur, rfl, hb, _⟩
  · simp [Value.ownBlock] at hg
  · simp [Value.ownBlock] at hg
    omega
/-- behind an append onto a slice of the call's own: a box for what is appended, the row written or made anew -/
theorem below_append {B e size n : Nat} {w0 wr w1 : World} {o : Obj} {v : Value} {xs : List Value} (h : Below B w0 wr) (hB : B ≤ wr.heap.size) (hown : wr.ownsRow B e size v n xs) (hg : (wr.alloc o).grownBy w1 v.ownBlock) : Below B w0 w1 :=
  (h.alloc hB o).grown hg (by simp; omega) (fun _ hk => own_block hown hk)
theorem quoL_end {s : ByteArray} {j f : Nat} {acc : List B} (h : j < s.size) (hq : ((s[j].toNat : Int) != 34) = false) : quoL (f + 1) acc (sfx s j) = .ok (acc, sfx s (j + 1)) := by
  rw [sfx_cons s j h, quoL, if_pos hq]
theorem sfx_drop (s : ByteArray) (j n : Nat) : (sfx s j).drop n = sfx s (j + n) := by
  unfold sfx; rw [List.drop_drop]
theorem quoL_on {s : ByteArray} {j f : Nat} {acc : List B} {b : B} {n : Nat} (h : j < s.size) (hq : ((s[j].toNat : Int) != 34) = true) (h1 : oneL (sfx s j) = .ok (b, n)) : quoL (f + 1) acc (sfx s j) = quoL f (acc ++ [b]) (sfx s (j + n)) := by
  rw [← sfx_drop]
  rw [sfx_cons s j h] at h1 ⊢
  rw [quoL, if_neg (by rw [hq]; simp), h1]
theorem quoL_bad {s : ByteArray} {j f : Nat} {acc : List B} {e : Int} (h : j < s.size) (hq : ((s[j].toNat : Int) != 34) = true) (h1 : oneL (sfx s j) = .error e) : quoL (f + 1) acc (sfx s j) = .error e := by
  rw [sfx_cons s j h] at h1 ⊢
  rw [quoL, if_neg (by rw [hq]; simp), h1]
theorem quotedL_bad {r : List B} {e : Int} (h : quoL (r.length + 1) [] r = .error e) : quotedL r = .error e := by
  unfold quotedL; rw [h]
theorem quotedL_long {r t rest : List B} (h : quoL (r.length + 1) [] r = .ok (t, rest)) (hl : 256 < (t.length : Int)) : quotedL r = .error 2 := by
  unfold quotedL; rw [h]; simp only; rw [if_pos hl]
theorem quotedL_ok {r t rest : List B} (h : quoL (r.length + 1) [] r = .ok (t, rest)) (hl : ¬ 256 < (t.length : Int)) : quotedL r = .ok (⟨2, t, Se.none, 0, 0⟩, r.length - rest.length) := by
  unfold quotedL; rw [h]; simp only; rw [if_neg hl]

set_option maxRecDepth 100000 in
set_option maxHeartbeats 1000000 in
theorem quoted_any (s : ByteArray) (k : Nat) (w : World) (hk : k ≤ s.size) (hs : s.size ≤ 140737488351232) :
    Calls Tryz.prog 204 #[.string s, .int .i64 k] w fun e w' => e = .returned (tokV k (quotedL (sfx s k))) ∧ Below w.heap.size w w' := by
  have hs' : s.size ≤ maxLen := by unfold maxLen; omega
  have HS := hid hs
  clear hs
  have hs := hs'
  unfold maxLen at hs
  obtain ⟨i0, hi, hz0, hz1, hz2⟩ := info_parts info5
  go_enter Tryz.func204, Tryz.ntmps204
  go_wp2
  go_loopw [1, 7] (fun i v wr => ∃ (j f : Nat) (acc : List B), k ≤ j ∧ j ≤ s.size ∧ i = .int .i64 j ∧ wr.ownsRow (w.heap.size + 1) 5 1 v acc.length (acc.map bv) ∧ acc.length ≤ j ∧ s.size < j + f ∧ wr.heap[w.heap.size]? = some (.cells Tok.zero.cells 139 (0, 0)) ∧ Below (w.heap.size + 1) (w.alloc (.cells Tok.zero.cells 139)) wr ∧ Hid (quoL f acc (sfx s j) = quoL ((sfx s k).length + 1) [] (sfx s k))) (fun i _ _ => s.size - (intOf i).toNat)
  case atStart => exact ⟨k, (sfx s k).length + 1, [], Nat.le_refl _, hk, rfl, World.ownsRow_nil _ _ _ _, by simp, by rw [sfx_len]; omega, heap_alloc_new _ _, Below.refl _ _, rfl⟩
  case round =>
    obtain ⟨j, f, acc, hkj, hj, rfl, hown, hal, hf, hb0, hbel, H⟩ := hrel
    have HB0 := hid hb0
    have HO := hid hown
    obtain ⟨ad, cap, rfl⟩ := own_shape hown
    have hsz : w.heap.size + 1 ≤ wr.heap.size := by have := hbel.size; simpa using this
    have hbel0 : Below w.heap.size w wr := ((Below.refl w.heap.size w).alloc (Nat.le_refl _) _).trans (hbel.mono (Nat.le_succ _))
    clear hb0 hown
    obtain ⟨f, rfl⟩ : ∃ f', f = f' + 1 := ⟨f - 1, by omega⟩
    by_cases hlt : j < s.size
    · cases hq : ((s[j].toNat : Int) != 34)
      · -- the closing sign
        have hqe := hid (H.out.symm.trans (quoL_end hlt hq))
        have hcv := fun w' => @run_string_own w' (w.heap.size + 1) (.slice ad acc.length cap) acc.length acc
        have hcv1 := hcv wr HO.out
        clear hcv
        by_cases h256 : 256 < (acc.length : Int)
        · have hqb := hid (quotedL_long hqe.out h256)
          go_wp2_with (refine wpList_store_blk rfl 139 (.tmp 4) (.tmp 40) rfl 8 info63 w.heap.size 139 _ HB0.out rfl Tok.zero.cells rfl rfl rfl rfl ?_)
          exact bodyPost_ret (results_cell3 rfl _ _ w.heap.size 139 _ (0, 0) _ rfl (setRow_heap HB0.out _) Tryz.underlying139 rfl info63) rfl ⟨ret_eq (by rw [tokV_bad hqb.out]; simp [Tok.cells, Tok.zero, Se.none]), Below.setRow hbel0 (Nat.le_refl _) _⟩
        · have hqb := hid (quotedL_ok hqe.out h256)
          go_wp2_with (refine wpList_store_blk rfl 139 (.tmp 4) (.tmp 43) rfl 8 info63 w.heap.size 139 _ HB0.out rfl (⟨2, acc, Se.none, 0, 0⟩ : Tok).cells rfl rfl rfl rfl ?_)
          exact bodyPost_ret (results_cell3 rfl _ _ w.heap.size 139 _ (0, 0) _ rfl (setRow_heap HB0.out _) Tryz.underlying139 rfl info63) rfl ⟨ret_eq (by rw [tokV_ok hqb.out]; simp [sfx_len]; omega), Below.setRow hbel0 (Nat.le_refl _) _⟩
      · rcases h1 : oneL (sfx s j) with x | ⟨b, n⟩
        · have hqb := hid (quotedL_bad (H.out.symm.trans (quoL_bad hlt hq h1)))
          have H1 := hid h1
          rcases oneL_err h1 with rfl | rfl
          all_goals
            clear h1
            go_wp2_with (first | (go_at_call 225; refine (one_at s _ j _ (by omega) (by omega) hs').mono ?_; rintro e w' ⟨rfl, rfl⟩; rw [H1.out]; simp only [byteV]) | (refine wpList_store_blk rfl 139 (.tmp 4) (.tmp 30) rfl 8 info63 w.heap.size 139 _ HB0.out rfl Tok.zero.cells rfl rfl rfl rfl ?_))
            exact bodyPost_ret (results_cell3 rfl _ _ w.heap.size 139 _ (0, 0) _ rfl (setRow_heap HB0.out _) Tryz.underlying139 rfl info63) rfl ⟨ret_eq (by rw [tokV_bad hqb.out]; simp [Tok.cells, Tok.zero, Se.none]), Below.setRow hbel0 (Nat.le_refl _) _⟩
        · have hon := hid ((quoL_on (f := f) (acc := acc) hlt hq h1).symm.trans H.out)
          have hln := oneL_len h1
          rw [sfx_len] at hln
          have hln1 := hln.1
          have hln2 := hln.2
          clear hln
          have H1 := hid h1
          clear h1
          go_wp2_with (first | (go_at_call 225; refine (one_at s _ j _ (by omega) (by omega) hs').mono ?_; rintro e w' ⟨rfl, rfl⟩; rw [H1.out]; simp only [byteV]) | (at_builtin; refine wpList_append_own _ rfl _ _ 73 rfl (w.heap.size + 1) 5 i0 (.int .u8 0) 1 1 Tryz.underlying73 hi hz0 hz1 hz2 rfl (by decide) _ _ _ rfl (HO.out.alloc _) ⟨wr.heap.size, 0, none⟩ 1 1 [bv b] rfl rfl ?c1 ?c2 ?c3 ?c4 ?c5 ?_))
          case c1 => exact cell_one_new _ _ _
          case c2 => intro u hu; simp at hu; subst hu; rfl
          case c3 => unfold maxLen; omega
          case c4 => have := HS.out; omega
          case c5 => simp; omega
          intro v' w1 hown' hgrow _
          have hbel1 := below_append hbel (by omega) HO.out hgrow
          have HB1 : Hid (w1.heap[w.heap.size]? = some (.cells Tok.zero.cells 139 (0, 0))) := (hbel1.block w.heap.size (Nat.lt_succ_self _)).trans (heap_alloc_new _ _)
          have HO1 : Hid (w1.ownsRow (w.heap.size + 1) 5 1 v' (acc ++ [b]).length ((acc ++ [b]).map bv)) := by
            show World.ownsRow _ _ _ _ _ _ _
            rw [List.length_append, List.map_append]
            exact hown'
          clear hown' hgrow
          go_wp2
          go_roundw
          case rel => exact ⟨j + n, f, acc ++ [b], by omega, by omega, by go_num, HO1.out, by simp; omega, by omega, HB1.out, hbel1, hon⟩
          case measure => simp [intOf]; omega
    · obtain rfl : j = s.size := by omega
      have hqb := hid (quotedL_bad (H.out.symm.trans (by rw [sfx_nil s s.size (Nat.le_refl _)]; rfl : quoL (f + 1) acc (sfx s s.size) = .error 6)))
      go_wp2_with (first | (go_at_call 225; refine (one_at s _ s.size _ (by omega) (by omega) hs').mono ?_; rintro e w' ⟨rfl, rfl⟩; rw [sfx_nil s s.size (Nat.le_refl _)]; simp only [byteV, oneL]) | (refine wpList_store_blk rfl 139 (.tmp 4) (.tmp 30) rfl 8 info63 w.heap.size 139 _ HB0.out rfl Tok.zero.cells rfl rfl rfl rfl ?_))
      exact bodyPost_ret (results_cell3 rfl _ _ w.heap.size 139 _ (0, 0) _ rfl (setRow_heap HB0.out _) Tryz.underlying139 rfl info63) rfl ⟨ret_eq (by rw [tokV_bad hqb.out]; simp [Tok.cells, Tok.zero, Se.none]), Below.setRow hbel0 (Nat.le_refl _) _⟩
end Go.Proofs.YtfljcfdfgojdoaaGreatDoor
