/-
  The reader of images in memory; the contract of its method take.
-/
import Derived.Test.YtdokeelodcckoaaImgJ
namespace Go.Proofs.Ytdokeelodcckoaa.Im
open Go.RowKit Go.Lib

/-- the reader in block R; what it has left to read lies in a block of which F holds -/
def RdAt (F : Nat → Prop) (R : Nat) (w : World) (r : Rd) : Prop :=
  ∃ g off cap, w.heap[R]? = some (.cells #[.slice (some ⟨g, off, none⟩) r.b.length cap, .bool r.bad] 68 (0, 0)) ∧ r.b.length ≤ cap ∧ cap ≤ maxLen ∧ F g ∧ ∀ i (h : i < r.b.length), w.cell? ⟨g, off + i, none⟩ = some (bV r.b[i])
/-- what a reader's method leaves of the world: all but the reader's block -/
structure Kp (R : Nat) (w w' : World) : Prop where
  os : w'.os = w.os
  tape : w'.tape = w.tape
  output : w'.output = w.output
  size : w.heap.size ≤ w'.heap.size
  block : ∀ k, k < w.heap.size → k ≠ R → w'.heap[k]? = w.heap[k]?
theorem Kp.refl (R : Nat) (w : World) : Kp R w w := ⟨rfl, rfl, rfl, Nat.le_refl _, fun _ _ _ => rfl⟩
theorem Kp.trans {R : Nat} {w w1 w2 : World} (h : Kp R w w1) (k : Kp R w1 w2) : Kp R w w2 :=
  ⟨k.os.trans h.os, k.tape.trans h.tape, k.output.trans h.output, Nat.le_trans h.size k.size, fun i hi hp => (k.block i (Nat.lt_of_lt_of_le hi h.size) hp).trans (h.block i hi hp)⟩
theorem Kp.alloc {R : Nat} {w w1 : World} (h : Kp R w w1) (o : Obj) : Kp R w (w1.alloc o) := h.trans ⟨rfl, rfl, rfl, by simp, fun _ hi _ => alloc_old hi⟩
theorem Kp.drew {R : Nat} {w w1 : World} (h : Kp R w w1) : Kp R w w1.drew := h.trans ⟨rfl, rfl, rfl, Nat.le_refl _, fun _ _ _ => rfl⟩
theorem Kp.set {R : Nat} {w w1 : World} (h : Kp R w w1) (i : Nat) (v : Value) : Kp R w (w1.setCell ⟨R, i, none⟩ v) :=
  h.trans ⟨rfl, rfl, rfl, by simp, fun k _ hk => heap_setCell_other _ _ _ _ hk⟩
theorem Kp.low {R : Nat} {w w1 : World} (h : Kp R w w1) (hR : R < w.heap.size) : Below R w w1 := ⟨h.os, h.tape, h.output, h.size, fun k hk => h.block k (by omega) (by omega)⟩
theorem RdAt.lt {F : Nat → Prop} {R : Nat} {w : World} {r : Rd} (h : RdAt F R w r) : R < w.heap.size := by obtain ⟨_, _, _, h, _⟩ := h; exact lt_of_heap h
theorem RdAt.frame {F : Nat → Prop} {R : Nat} {w w' : World} {r : Rd} (h : RdAt F R w r) (hR : w'.heap[R]? = w.heap[R]?) (hF : ∀ g, F g → g < w.heap.size → w'.heap[g]? = w.heap[g]?) : RdAt F R w' r := by
  obtain ⟨g, off, cap, h1, h2, h3, h4, h5⟩ := h
  exact ⟨g, off, cap, hR.trans h1, h2, h3, h4, fun i hi => (cell_heap (hF g h4 (World.block_lt_of_cell? w _ (h5 i hi)))).trans (h5 i hi)⟩
theorem RdAt.alloc {F : Nat → Prop} {R : Nat} {w : World} {r : Rd} (h : RdAt F R w r) (o : Obj) : RdAt F R (w.alloc o) r := h.frame (alloc_old h.lt) (fun _ _ hl => alloc_old hl)
theorem RdAt.drew {F : Nat → Prop} {R : Nat} {w : World} {r : Rd} (h : RdAt F R w r) : RdAt F R w.drew r := h
theorem two_set1 {w : World} {P : Nat} {a b : Value} {T : TypeId} (v : Value) (h : w.heap[P]? = some (.cells #[a, b] T (0, 0))) : (w.setCell ⟨P, 1, none⟩ v).heap[P]? = some (.cells #[a, v] T (0, 0)) := by
  rw [heap_setCell_same _ _ _ _ _ _ h]; rfl
theorem two_set0 {w : World} {P : Nat} {a b : Value} {T : TypeId} (v : Value) (h : w.heap[P]? = some (.cells #[a, b] T (0, 0))) : (w.setCell ⟨P, 0, none⟩ v).heap[P]? = some (.cells #[v, b] T (0, 0)) := by
  rw [heap_setCell_same _ _ _ _ _ _ h]; rfl
/-- the reader told bad -/
theorem RdAt.setBad {F : Nat → Prop} {R : Nat} {w : World} {r : Rd} (h : RdAt F R w r) (hF : ∀ g, F g → g ≠ R) : RdAt F R (w.setCell ⟨R, 1, none⟩ (.bool true)) ⟨r.b, true⟩ := by
  obtain ⟨g, off, cap, h1, h2, h3, h4, h5⟩ := h
  exact ⟨g, off, cap, two_set1 _ h1, h2, h3, h4, fun i hi => (cell_heap (heap_setCell_other _ _ _ _ (hF g h4))).trans (h5 i hi)⟩
/-- what take hands back -/
def TakePost (F : Nat → Prop) (R : Nat) (w : World) (x : List B × Rd) (e : Ending) (w' : World) : Prop :=
  ∃ g off cap, e = .returned (.slice (some ⟨g, off, none⟩) x.1.length cap) ∧ (F g ∨ w.heap.size ≤ g ∧ ∃ cur, w'.heap[g]? = some (.cells cur 5 (0, 0))) ∧ (∀ i (h : i < x.1.length), w'.cell? ⟨g, off + i, none⟩ = some (bV x.1[i])) ∧ RdAt F R w' x.2 ∧ Kp R w w'

theorem made_zero (n i : Nat) (hi : i < n) : (madeCells (Value.int .u8 0).cells (n * 1)).toList[i]? = some (bV 0) := by
  rw [Nat.mul_one]
  show (madeCells #[.int .u8 0] n).toList[i]? = _
  rw [toList_madeCells_one]
  simp [hi, bV]

set_option maxRecDepth 100000 in
set_option maxHeartbeats 1000000 in
theorem take_any {F : Nat → Prop} {R : Nat} {w : World} {r : Rd} {n : Nat} (h : RdAt F R w r) (hF : ∀ g, F g → g ≠ R) (hn : n ≤ 1000000) :
    Calls Try.prog 68 #[.pointer (some ⟨R, 0, none⟩), .int .i64 n] w (TakePost F R w (take n r)) := by
  have HR := hid h
  obtain ⟨rb, rbad⟩ := r
  obtain ⟨g, off, cap, h1, h2, h3, h4, h5⟩ := h
  simp only at h1 h2 h5
  obtain ⟨c0, c1⟩ := twocells h1
  have f0 := free_box (i := 0) h1
  have f1 := free_box (i := 1) h1
  have H1 := hid h1
  have H5 := hid h5
  have HF := hid hF
  unfold maxLen at h3
  clear h1 h5 hF
  by_cases hbad : rbad = true ∨ rb.length < n
  · have ht := hid (show take n ⟨rb, rbad⟩ = (List.replicate n 0, ⟨rb, true⟩) by unfold take; rw [if_pos (by simpa using hbad)])
    have hsb := hid (HR.out.setBad HF.out)
    obtain ⟨i0, hi, hz0, hz1, hz2⟩ := info_parts infoB
    have HI := hid hi
    have HZ := hid (And.intro hz0 (And.intro hz1 (And.intro hz2 trivial)))
    clear hi hz0 hz1 hz2
    have hcase : rbad = true ∨ (rbad = false ∧ rb.length < n) := by
      rcases hbad with h | h
      · exact .inl h
      · cases rbad
        · exact .inr ⟨rfl, h⟩
        · exact .inl rfl
    rcases hcase with rfl | ⟨rfl, hlt⟩
    all_goals
      go_enter Try.func68, Try.ntmps68
      go_wp2_with (at_make; refine wpList_make_full _ rfl _ _ 26 rfl w.heap.size 5 i0 (.int .u8 0) 1 Try.underlying26 HI.out HZ.out.1 HZ.out.2.1 .i64 .i64 _ _ n rfl rfl rfl rfl (by rw [HZ.out.2.2.1]; omega) (by unfold maxLen; omega) (by simp) ?_; intro w2 hown hgrow; have HOWN := hid hown; have HG := hid hgrow; clear hown hgrow)
      go_ret
      refine ⟨w.heap.size, 0, n, ?_, .inr ⟨Nat.le_refl _, ?_⟩, ?_, ?_, ?_⟩
      · rw [ht.out]; simp
      · have h := HOWN.out
        rw [show (w.setCell ⟨R, 1, none⟩ (.bool true)).heap.size = w.heap.size by simp] at h
        rcases h.2 with ⟨e, _⟩ | ⟨g', cp', cur, e, _, hh, _⟩
        · cases e
        · cases e; exact ⟨cur, hh⟩
      · rw [ht.out]
        intro i hi
        have hi' : i < n := by simpa using hi
        have h := HOWN.out
        rw [show (w.setCell ⟨R, 1, none⟩ (.bool true)).heap.size = w.heap.size by simp] at h
        rw [Nat.zero_add, h.cellAt i (by omega)]
        simp only [List.getElem_replicate]
        exact made_zero n i hi'
      · rw [ht.out]
        exact hsb.out.frame (HG.out.block _ (by simpa using HR.out.lt) (by simp)) (fun q _ hq => HG.out.block q hq (by simp))
      · exact ((Kp.refl R w).set 1 _).trans ⟨HG.out.os, HG.out.tape, HG.out.output, HG.out.size, fun q hq _ => HG.out.block q hq (by simp)⟩
  · obtain ⟨rfl, hlen⟩ : rbad = false ∧ n ≤ rb.length := by
      cases rbad
      · exact ⟨rfl, by omega⟩
      · exact absurd (.inl rfl) hbad
    have ht := hid (show take n ⟨rb, false⟩ = (rb.take n, ⟨rb.drop n, false⟩) by unfold take; rw [if_neg (by simp; omega)])
    have hlt : ¬ rb.length < n := by omega
    have hncap : n ≤ cap := by omega
    have HBAD := hid hbad
    clear hbad
    by_cases hnc : cap = n
    · have hrl : rb.length = n := by omega
      subst hnc
      have HRL := hid hrl
      clear hrl
      go_enter Try.func68, Try.ntmps68
      go_wp2
      go_ret
      have hd : rb.drop cap = [] := List.drop_eq_nil_of_le (by have := HRL.out; omega)
      refine ⟨g, off, cap, ?_, .inl h4, ?_, ?_, (Kp.refl R w).set 0 _⟩
      · rw [ht.out]; simp only [List.length_take]; rw [Nat.min_eq_left hlen]; rfl
      · rw [ht.out]
        intro i hi
        simp only [List.length_take] at hi
        simp only [List.getElem_take]
        exact (cell_heap (heap_setCell_other _ _ _ _ (HF.out g h4))).trans (H5.out i (by omega))
      · rw [ht.out]
        rw [hd]
        exact ⟨g, off, 0, two_set0 _ H1.out, Nat.le_refl _, by unfold maxLen; omega, h4, fun i hi => by simp at hi⟩
    · go_enter Try.func68, Try.ntmps68
      go_wp2
      go_ret
      refine ⟨g, off, cap, ?_, .inl h4, ?_, ?_, (Kp.refl R w).set 0 _⟩
      · rw [ht.out]; simp only [List.length_take]; rw [Nat.min_eq_left hlen]; rfl
      · rw [ht.out]
        intro i hi
        simp only [List.length_take] at hi
        simp only [List.getElem_take]
        exact (cell_heap (heap_setCell_other _ _ _ _ (HF.out g h4))).trans (H5.out i (by omega))
      · rw [ht.out]
        refine ⟨g, off + n, cap - n, (two_set0 _ H1.out).trans ?_, ?_, ?_, h4, ?_⟩
        · simp only [List.length_drop]
        · simp only [List.length_drop]; omega
        · unfold maxLen; omega
        · intro i hi
          simp only [List.length_drop] at hi
          simp only [List.getElem_drop]
          have h := (cell_heap (w' := w.setCell ⟨R, 0, none⟩ (.slice (some ⟨g, off + n, none⟩) (rb.length - n) (cap - n))) (heap_setCell_other _ _ _ _ (HF.out g h4))).trans (H5.out (n + i) (by omega))
          rw [← Nat.add_assoc] at h
          exact h
end Go.Proofs.Ytdokeelodcckoaa.Im
