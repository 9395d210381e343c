/-
  The reference's reader in memory; its methods one, number, text, bit.
-/
import Derived.Test.YtdokeelodcckoaaImgP
import Derived.Test.YtdokeelodcckoaaRrM
import Derived.BigQuiet
namespace Go.Proofs.Ytdokeelodcckoaa.Im
open Go.RowKit Go.Lib

/-- what the reader reads, where it lies -/
structure Src where
  g : Nat
  off : Nat
  cap : Nat
  l : List B
def RfAt (S : Src) (R : Nat) (w : World) (r : Rd) : Prop :=
  ∃ a : Nat, w.heap[R]? = some (.cells #[.slice (some ⟨S.g, S.off, none⟩) S.l.length S.cap, .int .i64 a, .bool r.bad] 73 (0, 0)) ∧ S.l.length ≤ 60000 ∧ a ≤ S.l.length ∧ r.b = S.l.drop a ∧ S.l.length ≤ S.cap ∧ S.cap ≤ maxLen ∧ ∀ i (h : i < S.l.length), w.cell? ⟨S.g, S.off + i, none⟩ = some (bV S.l[i])
theorem RfAt.lt {S : Src} {R : Nat} {w : World} {r : Rd} (h : RfAt S R w r) : R < w.heap.size := by obtain ⟨_, h, _⟩ := h; exact lt_of_heap h
theorem RfAt.frame {S : Src} {R : Nat} {w w' : World} {r : Rd} (h : RfAt S R w r) (hR : w'.heap[R]? = w.heap[R]?) (hF : S.g < w.heap.size → w'.heap[S.g]? = w.heap[S.g]?) : RfAt S R w' r := by
  obtain ⟨a, h1, h2, h3, h4, h5, h6, h7⟩ := h
  exact ⟨a, hR.trans h1, h2, h3, h4, h5, h6, fun i hi => (cell_heap (hF (World.block_lt_of_cell? w _ (h7 i hi)))).trans (h7 i hi)⟩
theorem RfAt.alloc {S : Src} {R : Nat} {w : World} {r : Rd} (h : RfAt S R w r) (o : Obj) : RfAt S R (w.alloc o) r := h.frame (alloc_old h.lt) (fun hl => alloc_old hl)
theorem RfAt.drew {S : Src} {R : Nat} {w : World} {r : Rd} (h : RfAt S R w r) : RfAt S R w.drew r := h
theorem RfAt.below {S : Src} {R b : Nat} {w w' : World} {r : Rd} (h : RfAt S R w r) (hb : Below b w w') (hR : R < b) (hF : S.g < b) : RfAt S R w' r := h.frame (hb.block R hR) (fun _ => hb.block S.g hF)
theorem RfAt.cells {S : Src} {R : Nat} {w : World} {r : Rd} (h : RfAt S R w r) : w.cell? ⟨R, 2, none⟩ = some (.bool r.bad) ∧ w.frozen? ⟨R, 2, none⟩ = false := by
  obtain ⟨a, h1, _⟩ := h
  exact ⟨cell_blk h1 rfl, free_box h1⟩
theorem RfAt.setBad {S : Src} {R : Nat} {w : World} {r : Rd} (h : RfAt S R w r) (hg : S.g ≠ R) : RfAt S R (w.setCell ⟨R, 2, none⟩ (.bool true)) ⟨r.b, true⟩ := by
  obtain ⟨a, h1, h2, h3, h4, h5, h6, h7⟩ := h
  exact ⟨a, three_set2 _ h1, h2, h3, h4, h5, h6, fun i hi => (cell_heap (heap_setCell_other _ _ _ _ hg)).trans (h7 i hi)⟩
theorem RfAt.setAt {S : Src} {R : Nat} {w : World} {r : Rd} (h : RfAt S R w r) (hg : S.g ≠ R) (a : Nat) {z : Int} (hz : z = a) (ha : a ≤ S.l.length) : RfAt S R (w.setCell ⟨R, 1, none⟩ (.int .i64 z)) ⟨S.l.drop a, r.bad⟩ := by
  subst hz
  obtain ⟨a', h1, h2, h3, h4, h5, h6, h7⟩ := h
  exact ⟨a, three_set1 _ h1, h2, ha, rfl, h5, h6, fun i hi => (cell_heap (heap_setCell_other _ _ _ _ hg)).trans (h7 i hi)⟩
theorem rtag {S : Src} {R : Nat} {w : World} {r : Rd} (h : RfAt S R w r) {e : TypeId} (he : 73 ≠ e) : ∀ cur, w.heap[R]? ≠ some (.cells cur e (0, 0)) := by
  obtain ⟨_, h1, _⟩ := h
  intro cur hc
  rw [h1] at hc
  cases hc
  exact he rfl
theorem three_cells {w : World} {D : Nat} {T : TypeId} {v0 v1 v2 : Value} (h : w.heap[D]? = some (.cells #[v0, v1, v2] T (0, 0))) : w.cell? ⟨D, 0, none⟩ = some v0 ∧ w.cell? ⟨D, 1, none⟩ = some v1 ∧ w.cell? ⟨D, 2, none⟩ = some v2 := ⟨cell_blk h rfl, cell_blk h rfl, cell_blk h rfl⟩
theorem wrap_small {z : Int} (h0 : 0 ≤ z) (h1 : z < 1000000) : IntKind.i64.wrap z = z := by rw [IntKind.wrap_i64]; omega
def IntPost (S : Src) (R : Nat) (w : World) (x : Nat × Rd) (e : Ending) (w' : World) : Prop :=
  e = .returned (.int .i64 (x.1 : Int)) ∧ RfAt S R w' x.2 ∧ Kp R w w'

set_option maxRecDepth 100000 in
set_option maxHeartbeats 1000000 in
theorem rone_any {S : Src} {R : Nat} {w : World} {r : Rd} (h : RfAt S R w r) (hg : S.g ≠ R) :
    Calls Try.prog 71 #[.pointer (some ⟨R, 0, none⟩)] w (IntPost S R w (one1 r)) := by
  have HR := hid h
  obtain ⟨rb, bad⟩ := r
  obtain ⟨a, h1, h2, h3, h4, h5, h6, h7⟩ := h
  simp only at h1 h4
  obtain ⟨c0, c1, c2⟩ := three_cells h1
  have f1 := free_box (i := 1) h1
  have f2 := free_box (i := 2) h1
  have H1 := hid h1
  have HG := hid hg
  have H4 := hid h4
  clear h1 hg h4
  unfold maxLen at h6
  by_cases hlt : a < S.l.length
  · have hx := h7 a hlt
    have HX := hid (show one1 ⟨rb, bad⟩ = (S.l[a].toNat, ⟨S.l.drop (a + 1), bad⟩) by
      rw [H4.out, List.drop_eq_getElem_cons hlt]; rfl)
    have hb : S.l[a].toNat < 256 := UInt8.toNat_lt _
    have hx' : w.cell? ⟨S.g, S.off + a, none⟩ = some (.int .u8 (S.l[a].toNat : Int)) := hx
    have hx2 : (w.setCell ⟨R, 1, none⟩ (.int .i64 ((a : Int) + 1))).cell? ⟨S.g, S.off + a, none⟩ = some (.int .u8 (S.l[a].toNat : Int)) := (cell_heap (heap_setCell_other _ _ _ _ HG.out)).trans hx'
    have HS := hid (HR.out.setAt HG.out (a + 1) (z := (a : Int) + 1) (by omega) (by omega))
    have H1' := hid (three_set1 (.int .i64 ((a : Int) + 1)) H1.out)
    clear h7 hx hx'
    generalize S.l[a].toNat = y at *
    generalize S.l.length = n at *
    have w1 : IntKind.i64.wrap ((a : Int) + 1) = (a : Int) + 1 := wrap_small (by omega) (by omega)
    have w2 : IntKind.i64.wrap ((a : Int) + 1 - 1) = (a : Int) := by rw [wrap_small (by omega) (by omega)]; omega
    have w3 : IntKind.i64.wrap (y : Int) = y := wrap_small (by omega) (by omega)
    have HK := hid ((Kp.refl R w).set 1 (.int .i64 ((a : Int) + 1)))
    go_enter Try.func71, Try.ntmps71
    go_wp2_with fail
    go_region
    go_wp2
    clear c0 c1 c2 f1 f2
    generalize w.setCell ⟨R, 1, none⟩ (.int .i64 ((a : Int) + 1)) = wm at *
    obtain ⟨c0, c1, c2⟩ := three_cells H1'.out
    go_region
    go_wp2
    go_ret
    rw [HX.out]
    exact ⟨rfl, HS.out, HK.out.drew.drew⟩
  · have HX := hid (show one1 ⟨rb, bad⟩ = (0, ⟨S.l.drop a, true⟩) by
      rw [H4.out, List.drop_eq_nil_of_le (by omega)]; rfl)
    have HS := hid (HR.out.setBad HG.out)
    clear h7
    generalize S.l.length = n at *
    go_enter Try.func71, Try.ntmps71
    go_wp2_with fail
    go_region
    go_wp2
    go_ret
    rw [HX.out]
    exact ⟨rfl, by have h := HS.out; rw [H4.out] at h; exact h, ((Kp.refl R w).set 2 _).drew⟩
theorem one1_lt (r : Rd) : (one1 r).1 < 256 := by
  unfold one1
  split
  · exact Nat.zero_lt_succ _
  · exact UInt8.toNat_lt _
set_option maxRecDepth 100000 in
set_option maxHeartbeats 1000000 in
theorem rnum_any {S : Src} {R : Nat} {w : World} {r : Rd} (h : RfAt S R w r) (hg : S.g ≠ R) :
    Calls Try.prog 53 #[.pointer (some ⟨R, 0, none⟩)] w (IntPost S R w (numR r)) := by
  have HG := hid hg
  clear hg
  go_enter Try.func53, Try.ntmps53
  go_wp2_with fail
  refine (rone_any h HG.out).mono ?_
  rintro e w1 ⟨rfl, hr1, hk1⟩
  have HX := hid (show numR r = (256 * (one1 r).1 + (one1 (one1 r).2).1, (one1 (one1 r).2).2) from rfl)
  have l1 := one1_lt r
  have l2 := one1_lt (one1 r).2
  have HK1 := hid hk1
  have HR1 := hid hr1
  clear h hk1 hr1
  generalize (one1 r).1 = x at *
  generalize (one1 r).2 = r1 at *
  go_wp2_with fail
  refine (rone_any HR1.out HG.out).mono ?_
  rintro e w2 ⟨rfl, hr2, hk2⟩
  have HK2 := hid hk2
  have HR2 := hid hr2
  clear hk2 hr2
  generalize (one1 r1).1 = y at *
  generalize (one1 r1).2 = r2 at *
  have w1 : IntKind.i64.wrap (256 * (x : Int)) = 256 * (x : Int) := wrap_small (by omega) (by omega)
  have w2 : IntKind.i64.wrap (256 * (x : Int) + y) = 256 * (x : Int) + y := wrap_small (by omega) (by omega)
  go_wp2
  go_ret
  rw [HX.out]
  exact ⟨by simp, HR2.out, HK1.out.trans HK2.out⟩
def RBitPost (S : Src) (R : Nat) (w : World) (x : Bool × Rd) (e : Ending) (w' : World) : Prop :=
  e = .returned (.bool x.1) ∧ RfAt S R w' x.2 ∧ Kp R w w'
set_option maxRecDepth 100000 in
set_option maxHeartbeats 1000000 in
theorem rbit_any {S : Src} {R : Nat} {w : World} {r : Rd} (h : RfAt S R w r) (hg : S.g ≠ R) :
    Calls Try.prog 54 #[.pointer (some ⟨R, 0, none⟩)] w (RBitPost S R w (bitR r)) := by
  have HG := hid hg
  clear hg
  go_enter Try.func54, Try.ntmps54
  go_wp2_with fail
  refine (rone_any h HG.out).mono ?_
  rintro e w1 ⟨rfl, hr1, hk1⟩
  have HX := hid (show bitR r = (decide ((one1 r).1 = 1), ⟨(one1 r).2.b, (one1 r).2.bad || decide (1 < (one1 r).1)⟩) from rfl)
  have l1 := one1_lt r
  have HK1 := hid hk1
  have HR1 := hid hr1
  clear h hk1 hr1
  generalize (one1 r).1 = x at *
  generalize (one1 r).2 = r1 at *
  obtain ⟨b1, bad1⟩ := r1
  obtain ⟨c2, f2⟩ := HR1.out.cells
  simp only at HX c2
  by_cases hx : 1 < x
  · have HX2 := hid (HX.out.trans (show _ = (false, (⟨b1, true⟩ : Rd)) by rw [decide_eq_true hx, decide_eq_false (by omega), Bool.or_true]))
    have hx' : (1 : Int) < x := by omega
    clear HX hx
    go_wp2
    go_ret
    rw [HX2.out]
    exact ⟨bool_eq (by rw [beq_eq_false_iff_ne]; omega), HR1.out.setBad HG.out, HK1.out.set 2 _⟩
  · have HX2 := hid (HX.out.trans (show _ = (decide (x = 1), (⟨b1, bad1⟩ : Rd)) by rw [decide_eq_false hx, Bool.or_false]))
    have hx' : ¬ (1 : Int) < x := by omega
    clear HX hx
    go_wp2
    go_ret
    rw [HX2.out]
    exact ⟨bool_eq (by rw [Bool.eq_iff_iff]; simp; omega), HR1.out, HK1.out⟩
theorem numR_lt (r : Rd) : (numR r).1 < 65536 := by
  have l1 := one1_lt r
  have l2 := one1_lt (one1 r).2
  unfold numR
  simp only
  omega
def RTxtPost (S : Src) (R : Nat) (w : World) (x : List B × Rd) (e : Ending) (w' : World) : Prop :=
  e = .returned (.string ⟨x.1.toArray⟩) ∧ RfAt S R w' x.2 ∧ Kp R w w'
set_option maxRecDepth 100000 in
set_option maxHeartbeats 1000000 in
theorem rtxt_any {S : Src} {R : Nat} {w : World} {r : Rd} (h : RfAt S R w r) (hg : S.g ≠ R) :
    Calls Try.prog 57 #[.pointer (some ⟨R, 0, none⟩)] w (RTxtPost S R w (txtR r)) := by
  have HG := hid hg
  clear hg
  go_enter Try.func57, Try.ntmps57
  go_wp2_with fail
  refine (rnum_any h HG.out).mono ?_
  rintro e v1 ⟨rfl, hr1, hk1⟩
  have HX := hid (show txtR r = if (numR r).2.b.length < (numR r).1 then ([], ⟨(numR r).2.b, true⟩) else ((numR r).2.b.take (numR r).1, ⟨(numR r).2.b.drop (numR r).1, (numR r).2.bad⟩) from rfl)
  have l1 := numR_lt r
  have HK1 := hid hk1
  have HR1 := hid hr1
  clear h hk1 hr1
  generalize (numR r).1 = x at *
  generalize (numR r).2 = r1 at *
  obtain ⟨b1, bad1⟩ := r1
  obtain ⟨a, h1, h2, h3, h4, h5, h6, h7⟩ := HR1.out
  simp only at HX h1 h4
  have hbl : b1.length = S.l.length - a := by rw [h4, List.length_drop]
  obtain ⟨c0, c1, c2⟩ := three_cells h1
  have f1 := free_box (i := 1) h1
  have f2 := free_box (i := 2) h1
  clear h1
  unfold maxLen at h6
  by_cases hx : b1.length < x
  · have HX2 := hid (HX.out.trans (if_pos hx))
    clear HX h7
    have hx' : (S.l.length : Int) < (a : Int) + x := by omega
    generalize S.l.length = n at *
    have w1 : IntKind.i64.wrap ((a : Int) + x) = (a : Int) + x := wrap_small (by omega) (by omega)
    go_wp2_with fail
    go_region
    go_wp2
    go_ret
    rw [HX2.out]
    exact ⟨rfl, HR1.out.setBad HG.out, (HK1.out.set 2 _).drew⟩
  · have HX2 := hid (HX.out.trans (if_neg hx))
    clear HX
    have hx' : ¬ (S.l.length : Int) < (a : Int) + x := by omega
    have hsum : a + x ≤ S.l.length := by omega
    have hlen : (b1.take x).length = x := by rw [List.length_take]; omega
    have hcell : ∀ i, i < x → v1.cell? ⟨S.g, S.off + a + i, none⟩ = some (.int .u8 (byteAt (b1.take x) i)) := fun i hi => by
      have h := h7 (a + i) (by omega)
      rw [← Nat.add_assoc] at h
      rw [h, ← byteAt_get (by omega)]
      simp only [h4, List.getElem_take, List.getElem_drop]
    have HS := hid (HR1.out.setAt HG.out (a + x) (z := (a : Int) + x) (by omega) (by omega))
    have HB := hid (show S.l.drop (a + x) = b1.drop x by rw [h4, List.drop_drop])
    clear h7
    generalize S.l.length = n at *
    have w1 : IntKind.i64.wrap ((a : Int) + x) = (a : Int) + x := wrap_small (by omega) (by omega)
    by_cases hca : S.cap = a
    · obtain rfl : x = 0 := by omega
      have kc1 := text_of (w := v1.drew) (g := S.g) (off := S.off) (cap := 0) hlen (fun i hi => by omega)
      have kc2 := text_of (w := v1.drew.drew) (g := S.g) (off := S.off) (cap := 0) hlen (fun i hi => by omega)
      generalize S.cap = cp at *
      subst hca
      go_wp2_with fail
      go_region
      go_wp2
      go_region
      go_wp2
      go_ret
      rw [HX2.out]
      exact ⟨by first | rfl | (rw [h4]; rfl) | (simp [h4]; done), by have h := HS.out; rw [HB.out] at h; exact h, ((HK1.out.set 1 _).drew).drew⟩
    · have kc1 := text_of (w := v1.drew) (cap := S.cap - a) hlen hcell
      have kc2 := text_of (w := v1.drew.drew) (cap := S.cap - a) hlen hcell
      clear hcell
      go_wp2_with fail
      go_region
      go_wp2
      go_region
      go_wp2
      go_ret
      rw [HX2.out]
      exact ⟨by first | rfl | (rw [h4]; rfl) | (simp [h4]; done), by have h := HS.out; rw [HB.out] at h; exact h, ((HK1.out.set 1 _).drew).drew⟩
end Go.Proofs.Ytdokeelodcckoaa.Im
