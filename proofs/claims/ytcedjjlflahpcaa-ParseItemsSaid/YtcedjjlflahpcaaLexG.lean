/-
  The contract of lex.quoted, for a text of no more than 2^47 bytes.
-/
import Derived.Test.YtcedjjlflahpcaaLx1
import Derived.Test.YtcedjjlflahpcaaSetA
import Derived.Laws.BytesString
namespace Go.Proofs.Ytcedjjlflahpcaa
open Go.RowKit Go.Lib

abbrev bv (c : B) : Value := .int .u8 c.toNat
theorem foldl_push (l : List B) : ∀ (s : ByteArray), (l.map fun c => (c.toNat : Int)).foldl (fun r n => r.push (UInt8.ofNat n.toNat)) s = ⟨s.data ++ l.toArray⟩ := by
  induction l with
  | nil => intro s; simp
  | cons c l ih =>
    intro s
    rw [List.map_cons, List.foldl_cons, ih]
    simp [ByteArray.push]
theorem run_string_own {w : World} {base : Nat} {v : Value} {n : Nat} {bs : List B} (hown : w.ownsRow base 5 1 v n (bs.map bv)) :
    (convert 72 9 v).run Try.prog w = .ok (.string ⟨bs.toArray⟩) w := by
  rcases hown.2 with ⟨rfl, rfl⟩ | ⟨g, cap, cur, rfl, hb, hg, h1, h2, h3, h4⟩
  · have : bs = [] := by have := hown.1; simpa using this
    subst this
    rw [run_convert_bytes_string w 72 9 5 _ _ _ Try.underlying72 Try.underlying5 Try.underlying9]
    simp [Conv.bytesToString, Sem.run_pure]
    rfl
  · have hc := hown.cells (g := g) rfl
    have hl : n = bs.length := by have := hown.1; simp at this; omega
    rw [run_convert_bytes_string w 72 9 5 _ _ _ Try.underlying72 Try.underlying5 Try.underlying9]
    have hload : (loadCells ⟨g, 0, none⟩ n).run Try.prog w = .ok ((bs.map fun c => (c.toNat : Int)).map (Value.int .u8)).toArray w := by
      have := run_loadCells_list (P := Try.prog) w ⟨g, 0, none⟩ (bs.map bv) hc
      rw [hl]
      simpa [List.map_map, Function.comp_def] using this
    rw [run_bytesToString w _ _ _ _ hload, foldl_push]
    simp

theorem info5 : (Try.prog.info? 5).map (fun i => (i.zero, i.size, i.bytes)) = some (some (.int .u8 0), 1, 1) := by kernel_rfl
theorem own_shape {w : World} {base e size n : Nat} {v : Value} {xs : List Value} (h : w.ownsRow base e size v n xs) : ∃ a cap, v = .slice a n cap := by
  rcases h.2 with ⟨rfl, rfl⟩ | ⟨g, cap, cur, rfl, _⟩
  · exact ⟨none, 0, rfl⟩
  · exact ⟨_, _, rfl⟩
theorem own_block {w : World} {base e size n g : Nat} {v : Value} {xs : List Value} (h : w.ownsRow base e size v n xs) (hg : v.ownBlock = some g) : base ≤ g := by
  rcases h.2 with ⟨rfl, rfl⟩ | ⟨g', cap, cur, rfl, hb, _⟩
  · simp [Value.ownBlock] at hg
  · simp [Value.ownBlock] at hg
    omega
/-- behind an append onto a slice of the call's own: a box for what is appended, the row written or made anew -/
theorem below_append {B e size n : Nat} {w0 wr w1 : World} {o : Obj} {v : Value} {xs : List Value} (h : Below B w0 wr) (hB : B ≤ wr.heap.size) (hown : wr.ownsRow B e size v n xs) (hg : (wr.alloc o).grownBy w1 v.ownBlock) : Below B w0 w1 :=
  (h.alloc hB o).grown hg (by simp; omega) (fun _ hk => own_block hown hk)
theorem quoL_end {s : ByteArray} {j f : Nat} {acc : List B} (h : j < s.size) (hq : ((s[j].toNat : Int) != 34) = false) : quoL (f + 1) acc (sfx s j) = .ok (acc, sfx s (j + 1)) := by
  rw [sfx_cons s j h, quoL, if_pos hq]
theorem sfx_drop (s : ByteArray) (j n : Nat) : (sfx s j).drop n = sfx s (j + n) := by
  unfold sfx; rw [List.drop_drop]
theorem quoL_on {s : ByteArray} {j f : Nat} {acc : List B} {b : B} {n : Nat} (h : j < s.size) (hq : ((s[j].toNat : Int) != 34) = true) (h1 : oneL (sfx s j) = .ok (b, n)) : quoL (f + 1) acc (sfx s j) = quoL f (acc ++ [b]) (sfx s (j + n)) := by
  rw [← sfx_drop]
  rw [sfx_cons s j h] at h1 ⊢
  rw [quoL, if_neg (by rw [hq]; simp), h1]
theorem quoL_bad {s : ByteArray} {j f : Nat} {acc : List B} {e : Int} (h : j < s.size) (hq : ((s[j].toNat : Int) != 34) = true) (h1 : oneL (sfx s j) = .error e) : quoL (f + 1) acc (sfx s j) = .error e := by
  rw [sfx_cons s j h] at h1 ⊢
  rw [quoL, if_neg (by rw [hq]; simp), h1]
theorem quotedL_bad {r : List B} {e : Int} (h : quoL (r.length + 1) [] r = .error e) : quotedL r = .error e := by
  unfold quotedL; rw [h]
theorem quotedL_long {r t rest : List B} (h : quoL (r.length + 1) [] r = .ok (t, rest)) (hl : 256 < (t.length : Int)) : quotedL r = .error 2 := by
  unfold quotedL; rw [h]; simp only; rw [if_pos hl]
theorem quotedL_ok {r t rest : List B} (h : quoL (r.length + 1) [] r = .ok (t, rest)) (hl : ¬ 256 < (t.length : Int)) : quotedL r = .ok (⟨2, t, Se.none, 0, 0⟩, r.length - rest.length) := by
  unfold quotedL; rw [h]; simp only; rw [if_neg hl]

set_option maxRecDepth 100000 in
set_option maxHeartbeats 1000000 in
theorem quoted_any (s : ByteArray) (k : Nat) (w : World) (hk : k ≤ s.size) (hs : s.size ≤ 140737488351232) :
    Calls Try.prog 53 #[.string s, .int .i64 k] w fun e w' => e = .returned (tokV k (quotedL (sfx s k))) ∧ Below w.heap.size w w' := by
  have hs' : s.size ≤ maxLen := by unfold maxLen; omega
  have HS := hid hs
  clear hs
  have hs := hs'
  unfold maxLen at hs
  obtain ⟨i0, hi, hz0, hz1, hz2⟩ := info_parts info5
  go_enter Try.func53, Try.ntmps53
  go_wp2
  go_loopw [1, 7] (fun i v wr => ∃ (j f : Nat) (acc : List B), k ≤ j ∧ j ≤ s.size ∧ i = .int .i64 j ∧ wr.ownsRow (w.heap.size + 1) 5 1 v acc.length (acc.map bv) ∧ acc.length ≤ j ∧ s.size < j + f ∧ wr.heap[w.heap.size]? = some (.cells Tok.zero.cells 63 (0, 0)) ∧ Below (w.heap.size + 1) (w.alloc (.cells Tok.zero.cells 63)) wr ∧ Hid (quoL f acc (sfx s j) = quoL ((sfx s k).length + 1) [] (sfx s k))) (fun i _ _ => s.size - (intOf i).toNat)
  case atStart => exact ⟨k, (sfx s k).length + 1, [], Nat.le_refl _, hk, rfl, World.ownsRow_nil _ _ _ _, by simp, by rw [sfx_len]; omega, heap_alloc_new _ _, Below.refl _ _, rfl⟩
  case round =>
    obtain ⟨j, f, acc, hkj, hj, rfl, hown, hal, hf, hb0, hbel, H⟩ := hrel
    have HB0 := hid hb0
    have HO := hid hown
    obtain ⟨ad, cap, rfl⟩ := own_shape hown
    have hsz : w.heap.size + 1 ≤ wr.heap.size := by have := hbel.size; simpa using this
    have hbel0 : Below w.heap.size w wr := ((Below.refl w.heap.size w).alloc (Nat.le_refl _) _).trans (hbel.mono (Nat.le_succ _))
    clear hb0 hown
    obtain ⟨f, rfl⟩ : ∃ f', f = f' + 1 := ⟨f - 1, by omega⟩
    by_cases hlt : j < s.size
    · cases hq : ((s[j].toNat : Int) != 34)
      · -- the closing sign
        have hqe := hid (H.out.symm.trans (quoL_end hlt hq))
        have hcv := fun w' => @run_string_own w' (w.heap.size + 1) (.slice ad acc.length cap) acc.length acc
        have hcv1 := hcv wr HO.out
        clear hcv
        by_cases h256 : 256 < (acc.length : Int)
        · have hqb := hid (quotedL_long hqe.out h256)
          go_wp2_with (refine wpList_store_blk rfl 63 (.tmp 4) (.tmp 40) rfl 8 info63 w.heap.size 63 _ HB0.out rfl Tok.zero.cells rfl rfl rfl rfl ?_)
          exact bodyPost_ret (results_cell3 rfl _ _ w.heap.size 63 _ (0, 0) _ rfl (setRow_heap HB0.out _) Try.underlying63 rfl info63) rfl ⟨ret_eq (by rw [tokV_bad hqb.out]; simp [Tok.cells, Tok.zero, Se.none]), Below.setRow hbel0 (Nat.le_refl _) _⟩
        · have hqb := hid (quotedL_ok hqe.out h256)
          go_wp2_with (refine wpList_store_blk rfl 63 (.tmp 4) (.tmp 43) rfl 8 info63 w.heap.size 63 _ HB0.out rfl (⟨2, acc, Se.none, 0, 0⟩ : Tok).cells rfl rfl rfl rfl ?_)
          exact bodyPost_ret (results_cell3 rfl _ _ w.heap.size 63 _ (0, 0) _ rfl (setRow_heap HB0.out _) Try.underlying63 rfl info63) rfl ⟨ret_eq (by rw [tokV_ok hqb.out]; simp [sfx_len]; omega), Below.setRow hbel0 (Nat.le_refl _) _⟩
      · rcases h1 : oneL (sfx s j) with x | ⟨b, n⟩
        · have hqb := hid (quotedL_bad (H.out.symm.trans (quoL_bad hlt hq h1)))
          have H1 := hid h1
          rcases oneL_err h1 with rfl | rfl
          all_goals
            clear h1
            go_wp2_with (first | (go_at_call 61; refine (one_at s _ j _ (by omega) (by omega) hs').mono ?_; rintro e w' ⟨rfl, rfl⟩; rw [H1.out]; simp only [byteV]) | (refine wpList_store_blk rfl 63 (.tmp 4) (.tmp 30) rfl 8 info63 w.heap.size 63 _ HB0.out rfl Tok.zero.cells rfl rfl rfl rfl ?_))
            exact bodyPost_ret (results_cell3 rfl _ _ w.heap.size 63 _ (0, 0) _ rfl (setRow_heap HB0.out _) Try.underlying63 rfl info63) rfl ⟨ret_eq (by rw [tokV_bad hqb.out]; simp [Tok.cells, Tok.zero, Se.none]), Below.setRow hbel0 (Nat.le_refl _) _⟩
        · have hon := hid ((quoL_on (f := f) (acc := acc) hlt hq h1).symm.trans H.out)
          have hln := oneL_len h1
          rw [sfx_len] at hln
          have hln1 := hln.1
          have hln2 := hln.2
          clear hln
          have H1 := hid h1
          clear h1
          go_wp2_with (first | (go_at_call 61; refine (one_at s _ j _ (by omega) (by omega) hs').mono ?_; rintro e w' ⟨rfl, rfl⟩; rw [H1.out]; simp only [byteV]) | (at_builtin; refine wpList_append_own _ rfl _ _ 72 rfl (w.heap.size + 1) 5 i0 (.int .u8 0) 1 1 Try.underlying72 hi hz0 hz1 hz2 rfl (by decide) _ _ _ rfl (HO.out.alloc _) ⟨wr.heap.size, 0, none⟩ 1 1 [bv b] rfl rfl ?c1 ?c2 ?c3 ?c4 ?c5 ?_))
          case c1 => exact cell_one_new _ _ _
          case c2 => intro u hu; simp at hu; subst hu; rfl
          case c3 => unfold maxLen; omega
          case c4 => have := HS.out; omega
          case c5 => simp; omega
          intro v' w1 hown' hgrow _
          have hbel1 := below_append hbel (by omega) HO.out hgrow
          have HB1 : Hid (w1.heap[w.heap.size]? = some (.cells Tok.zero.cells 63 (0, 0))) := (hbel1.block w.heap.size (Nat.lt_succ_self _)).trans (heap_alloc_new _ _)
          have HO1 : Hid (w1.ownsRow (w.heap.size + 1) 5 1 v' (acc ++ [b]).length ((acc ++ [b]).map bv)) := by
            show World.ownsRow _ _ _ _ _ _ _
            rw [List.length_append, List.map_append]
            exact hown'
          clear hown' hgrow
          go_wp2
          go_roundw
          case rel => exact ⟨j + n, f, acc ++ [b], by omega, by omega, by go_num, HO1.out, by simp; omega, by omega, HB1.out, hbel1, hon⟩
          case measure => simp [intOf]; omega
    · obtain rfl : j = s.size := by omega
      have hqb := hid (quotedL_bad (H.out.symm.trans (by rw [sfx_nil s s.size (Nat.le_refl _)]; rfl : quoL (f + 1) acc (sfx s s.size) = .error 6)))
      go_wp2_with (first | (go_at_call 61; refine (one_at s _ s.size _ (by omega) (by omega) hs').mono ?_; rintro e w' ⟨rfl, rfl⟩; rw [sfx_nil s s.size (Nat.le_refl _)]; simp only [byteV, oneL]) | (refine wpList_store_blk rfl 63 (.tmp 4) (.tmp 30) rfl 8 info63 w.heap.size 63 _ HB0.out rfl Tok.zero.cells rfl rfl rfl rfl ?_))
      exact bodyPost_ret (results_cell3 rfl _ _ w.heap.size 63 _ (0, 0) _ rfl (setRow_heap HB0.out _) Try.underlying63 rfl info63) rfl ⟨ret_eq (by rw [tokV_bad hqb.out]; simp [Tok.cells, Tok.zero, Se.none]), Below.setRow hbel0 (Nat.le_refl _) _⟩
end Go.Proofs.Ytcedjjlflahpcaa
