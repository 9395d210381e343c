/-
  SameRe, SameMap return true at two trees in memory that are read as one, wherever they lie.
  SameMap returns true at two maps in memory that are read as one, wherever they lie.
-/
import Derived.Test.YtfljcfdfgojdoaaGreatDoorSb49
namespace Go.Proofs.YtfljcfdfgojdoaaGreatDoor.Sh
open Go.RowKit Go.Lib Go.Proofs.YtfljcfdfgojdoaaGreatDoor

/-- the nine cells of an element of a row -/
def Elem9 (W : World) (g o : Nat) (k : Int) (x : List B) (s : Se) (v : Value) (mn mx : Int) : Prop :=
  W.cell? ⟨g, o, none⟩ = some (.int .i64 k) ∧ W.cell? ⟨g, o + 1, none⟩ = some (.string ⟨x.toArray⟩) ∧ W.cell? ⟨g, o + 2, none⟩ = some (.int .u64 s.a) ∧ W.cell? ⟨g, o + 3, none⟩ = some (.int .u64 s.b) ∧ W.cell? ⟨g, o + 4, none⟩ = some (.int .u64 s.c) ∧ W.cell? ⟨g, o + 5, none⟩ = some (.int .u64 s.d) ∧ W.cell? ⟨g, o + 6, none⟩ = some v ∧ W.cell? ⟨g, o + 7, none⟩ = some (.int .i64 mn) ∧ W.cell? ⟨g, o + 8, none⟩ = some (.int .i64 mx)
theorem elem9_of {W : World} {g o : Nat} {k : Int} {x : List B} {s : Se} {v : Value} {mn mx : Int} (h : ∀ j c, (reC k x s v mn mx)[j]? = some c → W.cell? ⟨g, o + j, none⟩ = some c) : Elem9 W g o k x s v mn mx :=
  ⟨h 0 _ rfl, h 1 _ rfl, h 2 _ rfl, h 3 _ rfl, h 4 _ rfl, h 5 _ rfl, h 6 _ rfl, h 7 _ rfl, h 8 _ rfl⟩
set_option maxRecDepth 100000 in
set_option maxHeartbeats 2000000 in
theorem same_g : ∀ (N : Nat) (r : Re), SizeOf.sizeOf r < N → ∀ (F F' : Nat → Prop) (cs cs' : Array Value) (w : World), (∀ g, F g → g < w.heap.size) → (∀ g, F' g → g < w.heap.size) → ReG F w r cs → ReG F' w r cs' →
    Calls Tryz.prog 19 #[.agg cs, .agg cs'] w fun e w' => e = .returned (.bool true) ∧ Below w.heap.size w w' := by
  intro N
  induction N with
  | zero => intro r h; omega
  | succ N ih =>
    intro r hN F F' cs cs' w hFw hFw' h h'
    obtain ⟨k, x, s, ps, mn, mx⟩ := r
    obtain ⟨ad, cap, rfl, hlen, ho⟩ := h.open
    obtain ⟨ad', cap', rfl, _, ho'⟩ := h'.open
    have IH := hid ih
    have HFW := hid (And.intro hFw hFw')
    clear h h' ih hFw hFw'
    have HO := hid ho
    have HO' := hid ho'
    clear ho ho'
    have e24 := eq24
    unfold maxLen at hlen
    have hsub : ∀ p ∈ ps, SizeOf.sizeOf p < N := fun p hp => by
      have h1 := List.sizeOf_lt_of_mem hp
      simp only [Re.mk.sizeOf_spec] at hN
      omega
    have HSUB := hid hsub
    clear hsub hN
    go_enter Tryz.func19, Tryz.ntmps19
    go_wp2
    have hb0 : Below w.heap.size w ((w.alloc (.cells (reC k x s (.slice ad ps.length cap) mn mx) 33)).alloc (.cells (reC k x s (.slice ad' ps.length cap') mn mx) 33)) := ((Below.refl _ w).alloc (Nat.le_refl _) _).alloc (by simp) _
    go_loopw [5] (fun v wr => ∃ i : Nat, i ≤ ps.length ∧ v = .int .i64 i ∧ Below (w.heap.size + 2) ((w.alloc (.cells (reC k x s (.slice ad ps.length cap) mn mx) 33)).alloc (.cells (reC k x s (.slice ad' ps.length cap') mn mx) 33)) wr) (fun v _ => ps.length - (RowKit.intOf v).toNat)
    case atStart => exact ⟨0, Nat.zero_le _, rfl, Below.refl _ _⟩
    case round =>
      obtain ⟨i, hi, rfl, hb⟩ := hrel
      have c3 : wr.cell? ⟨w.heap.size, 6, none⟩ = some (.slice ad ps.length cap) := cell_of_row _ _ 6 _ _ _ ((hb.block w.heap.size (by omega)).trans (heap_alloc2_old _ _ _))
      have c3' : wr.cell? ⟨w.heap.size + 1, 6, none⟩ = some (.slice ad' ps.length cap') := cell_of_row _ _ 6 _ _ _ ((hb.block (w.heap.size + 1) (by omega)).trans (heap_alloc2_new _ _ _))
      have hwr : Below w.heap.size w wr := hb0.trans (hb.mono (by omega))
      have hsz : w.heap.size + 2 ≤ wr.heap.size := by have := hb.size; simp at this; omega
      by_cases hlt : i < ps.length
      · obtain ⟨g, off, rfl, hgF, hparts⟩ := HO.out (by rintro rfl; simp at hlt)
        obtain ⟨g', off', rfl, hgF', hparts'⟩ := HO'.out (by rintro rfl; simp at hlt)
        obtain ⟨k1, x1, s1, ad1, n1, cap1, mn1, mx1, hr1, hc⟩ := hparts.at (List.getElem?_eq_getElem hlt)
        obtain ⟨k2, x2, s2, ad2, n2, cap2, mn2, mx2, hr2, hc'⟩ := hparts'.at (List.getElem?_eq_getElem hlt)
        obtain ⟨a0, a1, a2, a3, a4, a5, a6, a7, a8⟩ := elem9_of (W := wr) (g := g) (o := off + i * 9) fun j v hv => (hwr.cell (p := ⟨g, off + i * 9 + j, none⟩) (HFW.out.1 g hgF)).trans (hc j v hv)
        obtain ⟨b0, b1, b2, b3, b4, b5, b6, b7, b8⟩ := elem9_of (W := wr) (g := g') (o := off' + i * 9) fun j v hv => (hwr.cell (p := ⟨g', off' + i * 9 + j, none⟩) (HFW.out.2 g' hgF')).trans (hc' j v hv)
        have hq1 := hid (hr1.below HFW.out.1 hwr)
        have hq2 := hid (hr2.below HFW.out.2 hwr)
        have hsz1 := HSUB.out _ (List.getElem_mem hlt)
        have hgi : (i : Int) < (ps.length : Int) := by omega
        have HFR := hid (show (∀ g, F g → g < wr.drew.heap.size) ∧ (∀ g, F' g → g < wr.drew.heap.size) from ⟨fun g hg => by have := HFW.out.1 g hg; show g < wr.heap.size; omega, fun g hg => by have := HFW.out.2 g hg; show g < wr.heap.size; omega⟩)
        clear hparts hparts' hc hc' hr1 hr2
        go_wp2
        go_still_tail 10, (by kernel_rfl)
        change wpList _ _ _ _ _ wr.drew
        have hd1 := ReG.frame (F := F) (F' := F) (w := wr) (w' := wr.drew) (fun _ h => h) (fun _ _ _ => rfl) hq1.out
        have hd2 := ReG.frame (F := F') (F' := F') (w := wr) (w' := wr.drew) (fun _ h => h) (fun _ _ _ => rfl) hq2.out
        clear a0 a1 a2 a3 a4 a5 a6 a7 a8 b0 b1 b2 b3 b4 b5 b6 b7 b8
        go_wp2_with (go_at_call 19; refine (IH.out _ hsz1 F F' _ _ _ HFR.out.1 HFR.out.2 hd1 hd2).mono ?_; rintro e w3 ⟨rfl, hb3⟩)
        go_roundw
        case rel => exact ⟨i + 1, by omega, by go_num, hb.drew.trans (hb3.mono (by show _ ≤ wr.heap.size; omega))⟩
        case measure => simp [RowKit.intOf]; omega
      · obtain rfl : i = ps.length := by omega
        go_wp2
        go_ret
        exact ⟨rfl, hwr⟩
end Go.Proofs.YtfljcfdfgojdoaaGreatDoor.Sh

namespace Go.Proofs.YtfljcfdfgojdoaaGreatDoor.Sh
open Go.RowKit Go.Lib Go.Proofs.YtfljcfdfgojdoaaGreatDoor

set_option maxRecDepth 100000 in
set_option maxHeartbeats 4000000 in
theorem samemap_g : ∀ (N : Nat) (r : Mp), SizeOf.sizeOf r < N → ∀ (F F' : Nat → Prop) (y y' : Mw) (w : World), (∀ g, F g → g < w.heap.size) → (∀ g, F' g → g < w.heap.size) → MpG F w r y → MpG F' w r y' →
    Calls Tryz.prog 23 #[.agg y.cs, .agg y'.cs] w fun e w' => e = .returned (.bool true) ∧ Below w.heap.size w w' := by
  intro N
  induction N with
  | zero => intro r h; omega
  | succ N ih =>
    intro r hN F F' y y' w hFw hFw' h h'
    obtain ⟨k, re, o, ps, mn, mx⟩ := r
    obtain ⟨yk, ⟨rk, rx, rs, ra, rl, rc, rn, rm⟩, yo, ad, yn, cap, ymn, ymx⟩ := y
    obtain ⟨yk', ⟨rk', rx', rs', ra', rl', rc', rn', rm'⟩, yo', ad', yn', cap', ymn', ymx'⟩ := y'
    obtain ⟨h1, h2, h3, h4, h5, hre, hlen, ho⟩ := h.open
    obtain ⟨h1', h2', h3', h4', h5', hre', _, ho'⟩ := h'.open
    dsimp only at h1 h2 h3 h4 h5 h1' h2' h3' h4' h5' hre hre' ho ho'
    subst h1 h2 h4 h5 h3 h1' h2' h3' h4' h5'
    have IH := hid ih
    have HRE := hid hre
    have HRE' := hid hre'
    have HFW := hid (And.intro hFw hFw')
    clear h h' ih hre hre'
    have HO := hid ho
    have HO' := hid ho'
    clear ho ho'
    unfold maxLen at hlen
    have hsub : ∀ p ∈ ps, SizeOf.sizeOf p < N := fun p hp => by
      have h1 := List.sizeOf_lt_of_mem hp
      simp only [Mp.mk.sizeOf_spec] at hN
      omega
    have HSUB := hid hsub
    clear hsub hN
    have hb0 : Below w.heap.size w ((w.alloc (.cells (mpC yk' rk rx rs (.slice ra rl rc) rn rm yo' (.slice ad ps.length cap) ymn' ymx') 36)).alloc (.cells (mpC yk' rk' rx' rs' (.slice ra' rl' rc') rn' rm' yo' (.slice ad' ps.length cap') ymn' ymx') 36)) := ((Below.refl _ w).alloc (Nat.le_refl _) _).alloc (by simp) _
    have hcall := same_g _ re (Nat.lt_succ_self _) F F' (reC rk rx rs (.slice ra rl rc) rn rm) (reC rk' rx' rs' (.slice ra' rl' rc') rn' rm') ((w.alloc (.cells (mpC yk' rk rx rs (.slice ra rl rc) rn rm yo' (.slice ad ps.length cap) ymn' ymx') 36)).alloc (.cells (mpC yk' rk' rx' rs' (.slice ra' rl' rc') rn' rm' yo' (.slice ad' ps.length cap') ymn' ymx') 36))
      (fun g hg => by have := hFw g hg; simp; omega) (fun g hg => by have := hFw' g hg; simp; omega) (HRE.out.below hFw hb0) (HRE'.out.below hFw' hb0)
    clear hFw hFw'
    go_enter Tryz.func23, Tryz.ntmps23
    go_wp2_with (go_at_call 19; refine hcall.mono ?_; clear hcall; rintro e w1 ⟨rfl, hb1⟩; have HQ1 := hid ((hb1.block w.heap.size (by simp; omega)).trans (heap_alloc2_old _ _ _)); have HQ2 := hid ((hb1.block (w.heap.size + 1) (by simp)).trans (heap_alloc2_new _ _ _)); have c10 := cell_of_row _ _ 10 _ _ _ HQ1.out; have c10' := cell_of_row _ _ 10 _ _ _ HQ2.out; have c11 := cell_of_row _ _ 11 _ _ _ HQ1.out; have c11' := cell_of_row _ _ 11 _ _ _ HQ2.out; have c12 := cell_of_row _ _ 12 _ _ _ HQ1.out; have c12' := cell_of_row _ _ 12 _ _ _ HQ2.out; have c13 := cell_of_row _ _ 13 _ _ _ HQ1.out; have c13' := cell_of_row _ _ 13 _ _ _ HQ2.out; simp at c10 c10' c11 c11' c12 c12' c13 c13')
    have hs1 : w.heap.size + 2 ≤ w1.heap.size := by have := hb1.size; simpa using this
    clear c10 c10' c11 c11' c12 c12' c13 c13'
    have hbw1 : Below w.heap.size w w1 := hb0.trans (hb1.mono (by simp; omega))
    go_loopw [5] (fun v wr => ∃ i : Nat, i ≤ ps.length ∧ v = .int .i64 i ∧ Below (w.heap.size + 2) w1 wr) (fun v _ => ps.length - (RowKit.intOf v).toNat)
    case atStart => exact ⟨0, Nat.zero_le _, rfl, Below.refl _ _⟩
    case round =>
      obtain ⟨i, hi, rfl, hb⟩ := hrel
      have c3 : wr.cell? ⟨w.heap.size, 11, none⟩ = some (.slice ad ps.length cap) := cell_of_row _ _ 11 _ _ _ ((hb.block w.heap.size (by omega)).trans HQ1.out)
      have c3' : wr.cell? ⟨w.heap.size + 1, 11, none⟩ = some (.slice ad' ps.length cap') := cell_of_row _ _ 11 _ _ _ ((hb.block (w.heap.size + 1) (by omega)).trans HQ2.out)
      have hwr : Below w.heap.size w wr := hbw1.trans (hb.mono (by omega))
      have hsz : w.heap.size + 2 ≤ wr.heap.size := by have := hb.size; omega
      by_cases hlt : i < ps.length
      · obtain ⟨g, off, rfl, hgF, hparts⟩ := HO.out (by rintro rfl; simp at hlt)
        obtain ⟨g', off', rfl, hgF', hparts'⟩ := HO'.out (by rintro rfl; simp at hlt)
        obtain ⟨z1, hr1, hc⟩ := hparts.at (List.getElem?_eq_getElem hlt)
        obtain ⟨z2, hr2, hc'⟩ := hparts'.at (List.getElem?_eq_getElem hlt)
        obtain ⟨a0, a1, a2, a3, a4, a5, a6, a7, a8, a9, a10, a11, a12, a13⟩ := elem14_of (W := wr) (g := g) (o := off + i * 14) (y := z1) fun j v hv => (hwr.cell (p := ⟨g, off + i * 14 + j, none⟩) (HFW.out.1 g hgF)).trans (hc j v hv)
        obtain ⟨b0, b1, b2, b3, b4, b5, b6, b7, b8, b9, b10, b11, b12, b13⟩ := elem14_of (W := wr) (g := g') (o := off' + i * 14) (y := z2) fun j v hv => (hwr.cell (p := ⟨g', off' + i * 14 + j, none⟩) (HFW.out.2 g' hgF')).trans (hc' j v hv)
        have hq1 := hid (hr1.below HFW.out.1 hwr)
        have hq2 := hid (hr2.below HFW.out.2 hwr)
        have hsz1 := HSUB.out _ (List.getElem_mem hlt)
        have hgi : (i : Int) < (ps.length : Int) := by omega
        have HFR := hid (show (∀ g, F g → g < wr.drew.heap.size) ∧ (∀ g, F' g → g < wr.drew.heap.size) from ⟨fun g hg => by have := HFW.out.1 g hg; show g < wr.heap.size; omega, fun g hg => by have := HFW.out.2 g hg; show g < wr.heap.size; omega⟩)
        clear hparts hparts' hc hc' hr1 hr2
        go_wp2
        go_still_tail 10, (by kernel_rfl)
        change wpList _ _ _ _ _ wr.drew
        have hd1 := MpG.frame (F := F) (F' := F) (w := wr) (w' := wr.drew) (fun _ h => h) (fun _ _ _ => rfl) hq1.out
        have hd2 := MpG.frame (F := F') (F' := F') (w := wr) (w' := wr.drew) (fun _ h => h) (fun _ _ _ => rfl) hq2.out
        clear a0 a1 a2 a3 a4 a5 a6 a7 a8 a9 a10 a11 a12 a13 b0 b1 b2 b3 b4 b5 b6 b7 b8 b9 b10 b11 b12 b13
        go_wp2_with (go_at_call 23; refine (IH.out _ hsz1 F F' z1 z2 _ HFR.out.1 HFR.out.2 hd1 hd2).mono ?_; rintro e w3 ⟨rfl, hb3⟩)
        go_roundw
        case rel => exact ⟨i + 1, by omega, by go_num, hb.drew.trans (hb3.mono (by show _ ≤ wr.heap.size; omega))⟩
        case measure => simp [RowKit.intOf]; omega
      · obtain rfl : i = ps.length := by omega
        go_wp2
        go_ret
        exact ⟨rfl, hwr⟩
end Go.Proofs.YtfljcfdfgojdoaaGreatDoor.Sh
