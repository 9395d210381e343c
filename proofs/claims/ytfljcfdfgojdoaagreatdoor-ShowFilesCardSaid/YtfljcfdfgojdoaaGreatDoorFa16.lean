/-
  part: a sign that says not, how often, brackets; the contract of re.
  part with brackets; the contracts of the closure part, of re.
  The contract of the writer's method re.
  What the lexer and the parser make of brackets and of signs that say not: deeper than 32 is a fault at place 32, else none; no program in sight.
  The parser says the same of the same tokens wherever they stand, or that they stand too deep there; no program in sight.
-/
import Derived.Test.YtfljcfdfgojdoaaGreatDoorFa15
import Derived.Laws.EntriesVeiled
import Derived.Test.YtfljcfdfgojdoaaGreatDoorFa06
import Derived.Test.YtfljcfdfgojdoaaGreatDoorFa12
namespace Go.Proofs.YtfljcfdfgojdoaaGreatDoor.Sh
open Go.RowKit Go.Lib Go.Proofs.YtfljcfdfgojdoaaGreatDoor

set_option maxRecDepth 100000 in
set_option maxHeartbeats 1000000 in
theorem part_not {P Bw Bp Bj : Nat} (p : Re) (hp : PartOk P Bw Bp Bj p 3) {asked : Nat} (ha : ¬ 3 < asked) : PartOk P Bw Bp Bj (.mk 7 [] Se.none [p] 0 0) asked := by
  intro cs w d m l hr hE hW hdm hD hm hL
  obtain ⟨ad, cap, rfl, hlen, hps⟩ := hr.open
  have hlv : ¬ lev (.mk 7 [] Se.none [p] 0 0) < asked := ha
  obtain ⟨e1, e2⟩ := askW_own hlv
  have e3 : reW setS (.mk 7 [] Se.none [p] 0 0) = 33 :: askW setS p 3 := by
    rw [reW, if_pos rfl, partsW_one]
  have e4 : reD (.mk 7 [] Se.none [p] 0 0) = askD p 3 + 1 := by
    rw [reD, partsD, partsD, if_pos rfl]
    show max (askD p 3) 0 + 1 = _
    omega
  rw [e1, e3] at hL
  rw [e2, e4] at hD
  rw [e1, e2, e3, e4]
  have ha' : ¬ ((3 : Int) < (asked : Int)) := by omega
  have hlev := level_any 7 [] Se.none (.slice ad 1 cap) 0 0
  rw [show ((levK 7 : Nat) : Int) = 3 from rfl] at hlev
  have HW := hid hW
  have HE := hid hE
  have hPw := hW.lt
  have HU0 := hid ((Upd.refl P w).alloc (.cells (reC 7 [] Se.none (.slice ad 1 cap) 0 0) 33))
  have HW0 := hid (hW.alloc (.cells (reC 7 [] Se.none (.slice ad 1 cap) 0 0) 33))
  have hb0 : (w.alloc (.cells (reC 7 [] Se.none (.slice ad 1 cap) 0 0) 33)).heap[w.heap.size]? = some (.cells (reC 7 [] Se.none (.slice ad 1 cap) 0 0) 33 (0, 0)) := heap_alloc_new _ _
  have HFACT := hid (show ∀ W : World, Upd P (w.alloc (.cells (reC 7 [] Se.none (.slice ad 1 cap) 0 0) 33)) W → Nine W w.heap.size 7 [] Se.none (.slice ad 1 cap) 0 0 ∧ W.cell? ⟨Bw, 0, none⟩ = some (ptrV P) ∧ W.cell? ⟨Bp, 0, none⟩ = some (.func (.func 96) #[] #[ptrV Bw, ptrV Bp, ptrV Bj]) from fun W hu =>
    ⟨nine_of (hu.row hb0 (by decide) (by omega)), cell_blk (HE.out.upd (HU0.out.trans hu)).bw rfl, cell_blk (HE.out.upd (HU0.out.trans hu)).bp rfl⟩)
  obtain ⟨g, off, rfl, hgP, hpg⟩ := hps (by simp)
  obtain ⟨k1, x1, s1, ad1, n1, cap1, mn1, mx1, hr1, hc⟩ := hpg.at (i := 0) (r := p) rfl
  have HC := hid (show ∀ W : World, Upd P w W → W.cell? ⟨g, off, none⟩ = some (.int .i64 k1) ∧ W.cell? ⟨g, off + 1, none⟩ = some (.string ⟨x1.toArray⟩) ∧ W.cell? ⟨g, off + 2, none⟩ = some (.int .u64 s1.a) ∧ W.cell? ⟨g, off + 3, none⟩ = some (.int .u64 s1.b) ∧ W.cell? ⟨g, off + 4, none⟩ = some (.int .u64 s1.c) ∧ W.cell? ⟨g, off + 5, none⟩ = some (.int .u64 s1.d) ∧ W.cell? ⟨g, off + 6, none⟩ = some (.slice ad1 n1 cap1) ∧ W.cell? ⟨g, off + 7, none⟩ = some (.int .i64 mn1) ∧ W.cell? ⟨g, off + 8, none⟩ = some (.int .i64 mx1) from fun W hu =>
    ⟨hu.cell hgP (by simpa using hc 0 _ rfl), hu.cell hgP (by simpa using hc 1 _ rfl), hu.cell hgP (by simpa using hc 2 _ rfl), hu.cell hgP (by simpa using hc 3 _ rfl), hu.cell hgP (by simpa using hc 4 _ rfl), hu.cell hgP (by simpa using hc 5 _ rfl), hu.cell hgP (by simpa using hc 6 _ rfl), hu.cell hgP (by simpa using hc 7 _ rfl), hu.cell hgP (by simpa using hc 8 _ rfl)⟩)
  have HCALL := hid (show ∀ (W : World), Upd P w W → SW P W (d + 1) (max m (d + 1)) (l ++ [33]) → Calls Tryz.prog 96 #[.agg (reC k1 x1 s1 (.slice ad1 n1 cap1) mn1 mx1), .int .i64 3, ptrV Bw, ptrV Bp, ptrV Bj] W (WPost P W (d + 1) (max (max m (d + 1)) (d + 1 + askD p 3)) (l ++ [33] ++ askW setS p 3)) from fun W hu hw =>
    hp _ W (d + 1) _ _ (hr1.upd hu) (HE.out.upd hu) hw (by omega) (by omega) (by omega) (by rw [List.length_append]; rw [List.length_cons] at hL; simp only [List.length_cons, List.length_nil]; omega))
  obtain ⟨⟨c0, c1, c2, c3, c4, c5, c6, c7, c8⟩, cw, cp⟩ := HFACT.out _ (Upd.refl _ _)
  clear hr hE hW hlv e1 e2 e3 e4 hb0 hp hps ha hlen hpg hr1 hc
  go_enter Tryz.func96, Tryz.ntmps96
  go_upto_region 1 with fail
  generalize w.alloc (.cells (reC 7 [] Se.none (.slice (some ⟨g, off, none⟩) 1 cap) 0 0) 33) = W0 at *
  go_upto_region 12 with (go_at_call 97; refine (hlev _).mono ?_; clear hlev; rintro e W1 ⟨rfl, hb1⟩; have HU1 := hid (Upd.below (Upd.refl P W0) hb1); have HW1 := hid (HW0.out.below hb1); clear hb1 c0 c1 c2 c3 c4 c5 c6 c7 c8 cw cp; obtain ⟨⟨c0, c1, c2, c3, c4, c5, c6, c7, c8⟩, cw, cp⟩ := HFACT.out _ HU1.out)
  have hput := put_any ⟨#[33]⟩ HW1.out (by rw [List.length_cons] at hL; show l.length + 1 ≤ _; omega)
  go_upto_region 13 with (go_at_call 86; refine hput.mono ?_; clear hput; rintro e W2 ⟨rfl, hw2, hu2⟩; have HU2 := hid (HU1.out.trans hu2); have HW2 := hid hw2; clear hu2 hw2 c0 c1 c2 c3 c4 c5 c6 c7 c8 cw cp; obtain ⟨⟨c0, c1, c2, c3, c4, c5, c6, c7, c8⟩, cw, cp⟩ := HFACT.out _ HU2.out)
  have hent := enter_any HW2.out (by omega) (by omega)
  go_upto_region 14 with (go_at_call 100; refine hent.mono ?_; clear hent; rintro e W3 ⟨rfl, hw3, hu3⟩; have HU3 := hid (HU2.out.trans hu3); have HW3 := hid hw3; clear hu3 hw3 c0 c1 c2 c3 c4 c5 c6 c7 c8 cw cp; obtain ⟨⟨c0, c1, c2, c3, c4, c5, c6, c7, c8⟩, cw, cp⟩ := HFACT.out _ HU3.out; obtain ⟨g0, g1, g2, g3, g4, g5, g6, g7, g8⟩ := HC.out _ (HU0.out.trans HU3.out))
  go_still_tail 5, (by kernel_rfl)
  change wpList _ _ _ _ _ W3.drew
  have HU3D := hid HU3.out.drew
  have HW3D := hid (show SW P W3.drew (d + 1) (max m (d + 1)) (l ++ [33]) from by obtain ⟨v, h1, h2⟩ := HW3.out; exact ⟨v, h1, h2⟩)
  clear c0 c1 c2 c3 c4 c5 c6 c7 c8 cw cp g0 g1 g2 g3 g4 g5 g6 g7 g8
  generalize W3.drew = W4 at *
  go_upto_region 15 with (go_at_call 96; refine (HCALL.out W4 (HU0.out.trans HU3D.out) HW3D.out).mono ?_; rintro e W5 ⟨rfl, hw5, hu5⟩; have HU5 := hid (HU3D.out.trans hu5); have HW5 := hid hw5; clear hu5 hw5; obtain ⟨_, cw, cp⟩ := HFACT.out _ HU5.out)
  have hlea := leave_any HW5.out (by omega)
  go_wp2_with (go_at_call 101; refine hlea.mono ?_; clear hlea; rintro e W6 ⟨rfl, hw6, hu6⟩)
  go_end0
  refine ⟨rfl, ?_, HU0.out.trans (HU5.out.trans hu6)⟩
  rw [show max m (d + (askD p 3 + 1)) = max (max m (d + 1)) (d + 1 + askD p 3) by omega, show l ++ 33 :: askW setS p 3 = l ++ [33] ++ askW setS p 3 by simp]
  exact hw6
theorem oftenW_len (lo hi : Int) : (oftenW lo hi).length ≤ 10 := by
  unfold oftenW
  have h1 := decW_len lo
  have h2 := decW_len hi
  split
  · simp
  · split
    · simp
    · split
      · simp
      · split
        · simp only [List.length_cons, List.length_append, List.length_nil]; omega
        · simp only [List.length_cons, List.length_append, List.length_nil]; omega
set_option maxRecDepth 100000 in
set_option maxHeartbeats 1000000 in
theorem part_rep {P Bw Bp Bj : Nat} (p : Re) {lo hi : Int} (ho : oftOk lo hi) (hp : PartOk P Bw Bp Bj p 5) {asked : Nat} (ha : ¬ 4 < asked) : PartOk P Bw Bp Bj (.mk 8 [] Se.none [p] lo hi) asked := by
  intro cs w d m l hr hE hW hdm hD hm hL
  obtain ⟨ad, cap, rfl, hlen, hps⟩ := hr.open
  have hlv : ¬ lev (.mk 8 [] Se.none [p] lo hi) < asked := ha
  obtain ⟨e1, e2⟩ := askW_own hlv
  have e3 : reW setS (.mk 8 [] Se.none [p] lo hi) = askW setS p 5 ++ oftenW lo hi := by
    rw [reW, if_neg (by decide), if_pos rfl, partsW_one]
  have e4 : reD (.mk 8 [] Se.none [p] lo hi) = askD p 5 := by
    rw [reD, partsD, partsD]
    show max (askD p 5) 0 + 0 = _
    omega
  rw [e1, e3] at hL
  rw [e2, e4] at hD
  rw [e1, e2, e3, e4]
  have ha' : ¬ ((4 : Int) < (asked : Int)) := by omega
  have hlev := level_any 8 [] Se.none (.slice ad 1 cap) lo hi
  rw [show ((levK 8 : Nat) : Int) = 4 from rfl] at hlev
  have HW := hid hW
  have HE := hid hE
  have hPw := hW.lt
  have HU0 := hid ((Upd.refl P w).alloc (.cells (reC 8 [] Se.none (.slice ad 1 cap) lo hi) 33))
  have HW0 := hid (hW.alloc (.cells (reC 8 [] Se.none (.slice ad 1 cap) lo hi) 33))
  have hb0 : (w.alloc (.cells (reC 8 [] Se.none (.slice ad 1 cap) lo hi) 33)).heap[w.heap.size]? = some (.cells (reC 8 [] Se.none (.slice ad 1 cap) lo hi) 33 (0, 0)) := heap_alloc_new _ _
  have HFACT := hid (show ∀ W : World, Upd P (w.alloc (.cells (reC 8 [] Se.none (.slice ad 1 cap) lo hi) 33)) W → Nine W w.heap.size 8 [] Se.none (.slice ad 1 cap) lo hi ∧ W.cell? ⟨Bw, 0, none⟩ = some (ptrV P) ∧ W.cell? ⟨Bp, 0, none⟩ = some (.func (.func 96) #[] #[ptrV Bw, ptrV Bp, ptrV Bj]) from fun W hu =>
    ⟨nine_of (hu.row hb0 (by decide) (by omega)), cell_blk (HE.out.upd (HU0.out.trans hu)).bw rfl, cell_blk (HE.out.upd (HU0.out.trans hu)).bp rfl⟩)
  obtain ⟨g, off, rfl, hgP, hpg⟩ := hps (by simp)
  obtain ⟨k1, x1, s1, ad1, n1, cap1, mn1, mx1, hr1, hc⟩ := hpg.at (i := 0) (r := p) rfl
  have HC := hid (show ∀ W : World, Upd P w W → W.cell? ⟨g, off, none⟩ = some (.int .i64 k1) ∧ W.cell? ⟨g, off + 1, none⟩ = some (.string ⟨x1.toArray⟩) ∧ W.cell? ⟨g, off + 2, none⟩ = some (.int .u64 s1.a) ∧ W.cell? ⟨g, off + 3, none⟩ = some (.int .u64 s1.b) ∧ W.cell? ⟨g, off + 4, none⟩ = some (.int .u64 s1.c) ∧ W.cell? ⟨g, off + 5, none⟩ = some (.int .u64 s1.d) ∧ W.cell? ⟨g, off + 6, none⟩ = some (.slice ad1 n1 cap1) ∧ W.cell? ⟨g, off + 7, none⟩ = some (.int .i64 mn1) ∧ W.cell? ⟨g, off + 8, none⟩ = some (.int .i64 mx1) from fun W hu =>
    ⟨hu.cell hgP (by simpa using hc 0 _ rfl), hu.cell hgP (by simpa using hc 1 _ rfl), hu.cell hgP (by simpa using hc 2 _ rfl), hu.cell hgP (by simpa using hc 3 _ rfl), hu.cell hgP (by simpa using hc 4 _ rfl), hu.cell hgP (by simpa using hc 5 _ rfl), hu.cell hgP (by simpa using hc 6 _ rfl), hu.cell hgP (by simpa using hc 7 _ rfl), hu.cell hgP (by simpa using hc 8 _ rfl)⟩)
  have hol := oftenW_len lo hi
  have HCALL := hid (show ∀ (W : World), Upd P w W → SW P W d m l → Calls Tryz.prog 96 #[.agg (reC k1 x1 s1 (.slice ad1 n1 cap1) mn1 mx1), .int .i64 5, ptrV Bw, ptrV Bp, ptrV Bj] W (WPost P W d (max m (d + askD p 5)) (l ++ askW setS p 5)) from fun W hu hw =>
    hp _ W d _ _ (hr1.upd hu) (HE.out.upd hu) hw hdm hD hm (by rw [List.length_append] at hL; omega))
  obtain ⟨⟨c0, c1, c2, c3, c4, c5, c6, c7, c8⟩, cw, cp⟩ := HFACT.out _ (Upd.refl _ _)
  clear hr hE hW hlv e1 e2 e3 e4 hb0 hp hps ha hlen hpg hr1 hc
  go_enter Tryz.func96, Tryz.ntmps96
  go_upto_region 1 with fail
  generalize w.alloc (.cells (reC 8 [] Se.none (.slice (some ⟨g, off, none⟩) 1 cap) lo hi) 33) = W0 at *
  go_upto_region 17 with (go_at_call 97; refine (hlev _).mono ?_; clear hlev; rintro e W1 ⟨rfl, hb1⟩; have HU1 := hid (Upd.below (Upd.refl P W0) hb1); have HW1 := hid (HW0.out.below hb1); clear hb1 c0 c1 c2 c3 c4 c5 c6 c7 c8 cw cp; obtain ⟨⟨c0, c1, c2, c3, c4, c5, c6, c7, c8⟩, cw, cp⟩ := HFACT.out _ HU1.out; obtain ⟨g0, g1, g2, g3, g4, g5, g6, g7, g8⟩ := HC.out _ (HU0.out.trans HU1.out))
  go_still_tail 5, (by kernel_rfl)
  change wpList _ _ _ _ _ W1.drew
  have HU1D := hid HU1.out.drew
  have HW1D := hid (show SW P W1.drew d m l from by obtain ⟨v, h1, h2⟩ := HW1.out; exact ⟨v, h1, h2⟩)
  clear c0 c1 c2 c3 c4 c5 c6 c7 c8 cw cp g0 g1 g2 g3 g4 g5 g6 g7 g8
  generalize W1.drew = W4 at *
  go_upto_region 18 with (go_at_call 96; refine (HCALL.out W4 (HU0.out.trans HU1D.out) HW1D.out).mono ?_; rintro e W5 ⟨rfl, hw5, hu5⟩; have HU5 := hid (HU1D.out.trans hu5); have HW5 := hid hw5; clear hu5 hw5; obtain ⟨⟨c0, c1, c2, c3, c4, c5, c6, c7, c8⟩, cw, cp⟩ := HFACT.out _ HU5.out)
  have HFQ := hid (show ∀ W : World, Upd P W0 W → W.cell? ⟨Bw, 0, none⟩ = some (ptrV P) ∧ W.cell? ⟨w.heap.size, 7, none⟩ = some (.int .i64 lo) ∧ W.cell? ⟨w.heap.size, 8, none⟩ = some (.int .i64 hi) from fun W h => by
    obtain ⟨⟨_, _, _, _, _, _, _, c7, c8⟩, cw, _⟩ := HFACT.out W h
    exact ⟨cw, c7, c8⟩)
  have HUD := hid HU5.out.drew
  have HWD := hid (show SW P W5.drew d (max m (d + askD p 5)) (l ++ askW setS p 5) from by obtain ⟨v, h1, h2⟩ := HW5.out; exact ⟨v, h1, h2⟩)
  have HPUT := hid (show ∀ W : World, SW P W d (max m (d + askD p 5)) (l ++ askW setS p 5) → _ from fun W h => put_any ⟨(oftenW lo hi).toArray⟩ h (by rw [str_size]; rw [List.length_append] at hL ⊢; omega))
  have hoft := often_any lo hi ho
  go_region_held3 (fun W => W.cell? ⟨Bw, 0, none⟩ = some (ptrV P) ∧ W.cell? ⟨w.heap.size, 7, none⟩ = some (.int .i64 lo) ∧ W.cell? ⟨w.heap.size, 8, none⟩ = some (.int .i64 hi)) (first | exact HFQ.out _ HU6.out | exact HFQ.out _ HUD.out | exact HFQ.out _ HU5.out)
    ((first | (go_at_call 102; refine (hoft _).mono ?_; rintro e W7 ⟨rfl, rfl⟩) | (go_at_call 86; refine (HPUT.out _ HWD.out).mono ?_; rintro e W6 ⟨rfl, hw6, hu6⟩; have HU6 := hid (HUD.out.trans hu6); have HW6 := hid hw6; clear hu6 hw6)))
  all_goals
    go_wp2
    go_end0
    exact ⟨rfl, by rw [← List.append_assoc]; exact HW6.out, HU0.out.trans HU6.out⟩
end Go.Proofs.YtfljcfdfgojdoaaGreatDoor.Sh

namespace Go.Proofs.YtfljcfdfgojdoaaGreatDoor.Sh
open Go.RowKit Go.Lib Go.Proofs.YtfljcfdfgojdoaaGreatDoor

set_option maxRecDepth 100000 in
set_option maxHeartbeats 1000000 in
theorem bracket_any {P Bp Br : Nat} {w : World} {d m M : Nat} {l x : List B} (hW : SW P w d m l) (hd : d ≤ 1000000) (hm : m ≤ 1000000) (hl : l.length + x.length ≤ 2199023255552)
    (H : ∀ W, SW P W (d + 1) (max m (d + 1)) (l ++ [40]) → Upd P w W → Calls Tryz.prog 99 #[ptrV Bp, ptrV Br] W (WPost P W (d + 1) M (l ++ [40] ++ x))) :
    Calls Tryz.prog 98 #[ptrV P, .func (.func 99) #[] #[ptrV Bp, ptrV Br]] w (WPost P w d M (l ++ 40 :: (x ++ [41]))) := by
  have HH := hid H
  clear H
  have hput := put_any ⟨#[40]⟩ hW (by show l.length + 1 ≤ _; omega)
  clear hW
  go_enter Tryz.func98, Tryz.ntmps98
  go_upto_region 1 with (go_at_call 86; refine hput.mono ?_; clear hput; rintro e W1 ⟨rfl, hw1, hu1⟩; have HU1 := hid hu1; have HW1 := hid hw1; clear hu1 hw1)
  have hent := enter_any HW1.out (by omega) (by omega)
  go_upto_region 2 with (go_at_call 100; refine hent.mono ?_; clear hent; rintro e W2 ⟨rfl, hw2, hu2⟩; have HU2 := hid (HU1.out.trans hu2); have HW2 := hid hw2; clear hu2 hw2)
  have hcall := HH.out W2 HW2.out HU2.out
  go_upto_region 3 with (go_at_call 99; refine hcall.mono ?_; clear hcall; rintro e W3 ⟨rfl, hw3, hu3⟩; have HU3 := hid (HU2.out.trans hu3); have HW3 := hid hw3; clear hu3 hw3)
  have hlea := leave_any HW3.out (by omega)
  go_upto_region 4 with (go_at_call 101; refine hlea.mono ?_; clear hlea; rintro e W4 ⟨rfl, hw4, hu4⟩; have HU4 := hid (HU3.out.trans hu4); have HW4 := hid hw4; clear hu4 hw4)
  have hput2 := put_any ⟨#[41]⟩ HW4.out (by simp only [List.length_append, List.length_cons, List.length_nil]; show _ + 1 ≤ _; omega)
  go_wp2_with (go_at_call 86; refine hput2.mono ?_; clear hput2; rintro e W5 ⟨rfl, hw5, hu5⟩)
  go_end0
  refine ⟨rfl, ?_, HU4.out.trans hu5⟩
  rw [show l ++ 40 :: (x ++ [41]) = l ++ [40] ++ x ++ [41] by simp]
  exact hw5
set_option maxRecDepth 100000 in
set_option maxHeartbeats 1000000 in
theorem part_br {P Bw Bp Bj : Nat} {r : Re} (hp : PartOk P Bw Bp Bj r 0) {asked : Nat} (ha : lev r < asked) : PartOk P Bw Bp Bj r asked := by
  intro cs w d m l hr hE hW hdm hD hm hL
  have hr0 := hr
  obtain ⟨k, x, s, ps, mn, mx⟩ := r
  obtain ⟨ad, cap, rfl, hlen, _⟩ := hr.open
  obtain ⟨e1, e2⟩ := askW_own (r := .mk k x s ps mn mx) (asked := 0) (by omega)
  have e3 : askW setS (.mk k x s ps mn mx) asked = 40 :: (askW setS (.mk k x s ps mn mx) 0 ++ [41]) := by rw [e1]; unfold askW; rw [if_pos ha]
  have e4 : askD (.mk k x s ps mn mx) asked = askD (.mk k x s ps mn mx) 0 + 1 := by rw [e2]; unfold askD; rw [if_pos ha]
  rw [e3] at hL
  rw [e4] at hD
  rw [e3, e4]
  have ha' : ((levK k : Nat) : Int) < (asked : Int) := Int.ofNat_lt.2 ha
  have hlev := level_any k x s (.slice ad ps.length cap) mn mx
  generalize levK k = lk at *
  have HW := hid hW
  have HE := hid hE
  have hPw := hW.lt
  have HU0 := hid ((Upd.refl P w).alloc (.cells (reC k x s (.slice ad ps.length cap) mn mx) 33))
  have HW0 := hid (hW.alloc (.cells (reC k x s (.slice ad ps.length cap) mn mx) 33))
  have hb0 : (w.alloc (.cells (reC k x s (.slice ad ps.length cap) mn mx) 33)).heap[w.heap.size]? = some (.cells (reC k x s (.slice ad ps.length cap) mn mx) 33 (0, 0)) := heap_alloc_new _ _
  have HFACT := hid (show ∀ W : World, Upd P (w.alloc (.cells (reC k x s (.slice ad ps.length cap) mn mx) 33)) W → Nine W w.heap.size k x s (.slice ad ps.length cap) mn mx ∧ W.cell? ⟨Bw, 0, none⟩ = some (ptrV P) ∧ W.cell? ⟨Bp, 0, none⟩ = some (.func (.func 96) #[] #[ptrV Bw, ptrV Bp, ptrV Bj]) from fun W hu =>
    ⟨nine_of (hu.row hb0 (by decide) (by omega)), cell_blk (HE.out.upd (HU0.out.trans hu)).bw rfl, cell_blk (HE.out.upd (HU0.out.trans hu)).bp rfl⟩)
  have HIN := hid (show ∀ W : World, Upd P (w.alloc (.cells (reC k x s (.slice ad ps.length cap) mn mx) 33)) W → SW P W (d + 1) (max m (d + 1)) (l ++ [40]) → Calls Tryz.prog 99 #[ptrV Bp, ptrV w.heap.size] W (WPost P W (d + 1) (max (max m (d + 1)) (d + 1 + askD (.mk k x s ps mn mx) 0)) (l ++ [40] ++ askW setS (.mk k x s ps mn mx) 0)) from fun W hu hw => by
    obtain ⟨⟨c0, c1, c2, c3, c4, c5, c6, c7, c8⟩, _, cp⟩ := HFACT.out W hu
    have hcall := hp _ W (d + 1) _ _ (hr0.upd (HU0.out.trans hu)) (HE.out.upd (HU0.out.trans hu)) hw (by omega) (by omega) (by omega) (by
      rw [List.length_append]
      simp only [List.length_cons, List.length_nil, List.length_append] at hL ⊢
      omega)
    clear hr hr0 hE hW hp e1 e2 e3 e4 hL hD HFACT HU0 HW0 HE HW hlev hb0 hu hw ha ha'
    go_enter Tryz.func99, Tryz.ntmps99
    go_wp2_with (go_at_call 96; refine hcall.mono ?_; clear hcall; rintro e W1 ⟨rfl, hw1, hu1⟩)
    go_end0
    exact ⟨rfl, hw1, hu1⟩)
  obtain ⟨⟨c0, c1, c2, c3, c4, c5, c6, c7, c8⟩, cw, cp⟩ := HFACT.out _ (Upd.refl _ _)
  have hx : l.length + (askW setS (.mk k x s ps mn mx) 0).length ≤ 1099511627776 := by
    simp only [List.length_cons, List.length_append, List.length_nil] at hL; omega
  clear hr hr0 hE hW hp e1 e2 e3 e4 hb0 hL hlen ha
  generalize askW setS (.mk k x s ps mn mx) 0 = X at *
  generalize askD (.mk k x s ps mn mx) 0 = D at *
  have hdd : d ≤ 1000000 := by omega
  go_enter Tryz.func96, Tryz.ntmps96
  go_upto_region 1 with fail
  generalize w.alloc (.cells (reC k x s (.slice ad ps.length cap) mn mx) 33) = W0 at *
  go_upto_region 2 with (go_at_call 97; refine (hlev _).mono ?_; clear hlev; rintro e W1 ⟨rfl, hb1⟩; have HU1 := hid (Upd.below (Upd.refl P W0) hb1); have HW1 := hid (HW0.out.below hb1); clear hb1 c0 c1 c2 c3 c4 c5 c6 c7 c8 cw cp; obtain ⟨_, cw, cp⟩ := HFACT.out _ HU1.out)
  have hbr := bracket_any (Bp := Bp) (Br := w.heap.size) HW1.out hdd hm (by omega) fun W hw hu => HIN.out W (HU1.out.trans hu) hw
  go_wp2_with (go_at_call 98; refine hbr.mono ?_; clear hbr; rintro e W2 ⟨rfl, hw2, hu2⟩)
  go_end0
  refine ⟨rfl, ?_, HU0.out.trans (HU1.out.trans hu2)⟩
  rw [show max m (d + (D + 1)) = max (max m (d + 1)) (d + 1 + D) by omega]
  exact hw2
theorem part_any {P Bw Bp Bj : Nat} : ∀ (h : Nat) (r : Re), OkRe h r → SeRe r → ∀ asked, asked ≤ 5 → PartOk P Bw Bp Bj r asked
  | 0, r, hr, _ => by simp [OkRe] at hr
  | h + 1, .mk k x s ps mn mx, hr, hs => by
    have hr' : Node k x s ps.length mn mx ∧ ∀ p ∈ ps, OkRe h p := by simpa [OkRe] using hr
    obtain ⟨hn, hp⟩ := hr'
    have ih : ∀ p ∈ ps, ∀ asked, asked ≤ 5 → PartOk P Bw Bp Bj p asked := fun p hpp => part_any h p (hp p hpp) (hs.part hpp)
    have hset := hs.set
    clear hr hs hp
    have own : ∀ asked, asked ≤ 5 → ¬ levK k < asked → PartOk P Bw Bp Bj (.mk k x s ps mn mx) asked := by
      intro asked ha hl
      generalize hpl : ps.length = n at hn
      have hleaf : n = 0 → mn = 0 → mx = 0 → (k = 1 ∨ k = 2 ∨ k = 3) → PartOk P Bw Bp Bj (.mk k x s ps mn mx) asked := fun h0 h1 h2 hk => by
        subst h0 h1 h2
        obtain rfl := List.length_eq_zero_iff.1 hpl
        exact part_leaf hn hk hset ha
      cases hn with
      | text x h => exact hleaf rfl rfl rfl (.inl rfl)
      | set s => exact hleaf rfl rfl rfl (.inr (.inl rfl))
      | name x h hx => exact hleaf rfl rfl rfl (.inr (.inr rfl))
      | cat n h => exact part_row (.inl rfl) ps (fun p hpp => ih p hpp 3 (by omega)) hl
      | alt n h => exact part_row (.inr (.inl rfl)) ps (fun p hpp => ih p hpp 1 (by omega)) hl
      | and n h => exact part_row (.inr (.inr rfl)) ps (fun p hpp => ih p hpp 2 (by omega)) hl
      | not =>
        obtain ⟨p, rfl⟩ := one_of hpl
        exact part_not p (ih p List.mem_cons_self 3 (by omega)) hl
      | rep a b h =>
        obtain ⟨p, rfl⟩ := one_of hpl
        exact part_rep p (Node.oft (.rep _ _ h)).1 (ih p List.mem_cons_self 5 (by omega)) hl
    intro asked ha
    by_cases hl : levK k < asked
    · exact part_br (own 0 (by omega) (by omega)) hl
    · exact own asked ha hl
end Go.Proofs.YtfljcfdfgojdoaaGreatDoor.Sh

namespace Go.Proofs.YtfljcfdfgojdoaaGreatDoor.Sh
open Go.RowKit Go.Lib Go.Proofs.YtfljcfdfgojdoaaGreatDoor

theorem four {w : World} (o0 o1 o2 o3 : Obj) : ((((w.alloc o0).alloc o1).alloc o2).alloc o3).heap[w.heap.size]? = some o0 ∧ ((((w.alloc o0).alloc o1).alloc o2).alloc o3).heap[w.heap.size + 1]? = some o1 ∧
    ((((w.alloc o0).alloc o1).alloc o2).alloc o3).heap[w.heap.size + 1 + 1]? = some o2 ∧ ((((w.alloc o0).alloc o1).alloc o2).alloc o3).heap[w.heap.size + 1 + 1 + 1]? = some o3 := by
  have e1 : (w.alloc o0).heap.size = w.heap.size + 1 := by simp
  have e2 : ((w.alloc o0).alloc o1).heap.size = w.heap.size + 1 + 1 := by simp
  have e3 : (((w.alloc o0).alloc o1).alloc o2).heap.size = w.heap.size + 1 + 1 + 1 := by simp
  refine ⟨?_, ?_, ?_, ?_⟩
  · exact (alloc_old (by omega)).trans ((alloc_old (by omega)).trans ((alloc_old (by omega)).trans (heap_alloc_new _ _)))
  · rw [← e1]
    exact (alloc_old (by omega)).trans ((alloc_old (by omega)).trans (heap_alloc_new _ _))
  · rw [← e2]
    exact (alloc_old (by omega)).trans (heap_alloc_new _ _)
  · rw [← e3]
    exact heap_alloc_new _ _
set_option maxRecDepth 100000 in
set_option maxHeartbeats 1000000 in
theorem re_any {P h : Nat} {r : Re} {cs : Array Value} {w : World} {d m : Nat} {l : List B} (hr : OkRe h r) (hs : SeRe r) (hG : ReG (fun g => g < P) w r cs) (hW : SW P w d m l) (hdm : d ≤ m) (hD : d + reD r ≤ 1000000) (hm : m ≤ 1000000) (hL : l.length + (reW setS r).length ≤ 1099511627776) :
    Calls Tryz.prog 50 #[ptrV P, .agg cs] w (WPost P w d (max m (d + reD r)) (l ++ reW setS r)) := by
  obtain ⟨e1, e2⟩ := askW_own (r := r) (asked := 0) (by omega)
  obtain ⟨k, x, s, ad, n, cap, mn, mx, rfl⟩ := hG.cells
  rw [← e1] at hL ⊢
  rw [← e2] at hD ⊢
  have HP := hid (part_any (P := P) (Bw := w.heap.size) (Bp := w.heap.size + 1 + 1) (Bj := w.heap.size + 1 + 1 + 1) h r hr hs 0 (by omega))
  have HG := hid hG
  have HW := hid hW
  have hPw := hW.lt
  obtain ⟨f0, f1, f2, f3⟩ := four (w := w) (.cells #[ptrV P] 70) (.cells (reC k x s (.slice ad n cap) mn mx) 33) (.cells #[.nilFunc] 130) (.cells #[.func (.func 95) #[] #[ptrV w.heap.size, ptrV (w.heap.size + 1 + 1)]] 131)
  have HU4 := hid (((((Upd.refl P w).alloc (.cells #[ptrV P] 70)).alloc (.cells (reC k x s (.slice ad n cap) mn mx) 33)).alloc (.cells #[.nilFunc] 130)).alloc (.cells #[.func (.func 95) #[] #[ptrV w.heap.size, ptrV (w.heap.size + 1 + 1)]] 131))
  have HW4 := hid ((((hW.alloc (.cells #[ptrV P] 70)).alloc (.cells (reC k x s (.slice ad n cap) mn mx) 33)).alloc (.cells #[.nilFunc] 130)).alloc (.cells #[.func (.func 95) #[] #[ptrV w.heap.size, ptrV (w.heap.size + 1 + 1)]] 131))
  have g2 := cell_blk (i := 0) f2 rfl
  have z2 := free_box (i := 0) f2
  have F0 := hid f0
  have F1 := hid f1
  have F2 := hid f2
  have F3 := hid f3
  clear hG hW hr hs e1 e2 f0 f1 f2 f3
  go_enter Tryz.func50, Tryz.ntmps50
  go_upto_region 3 with fail
  generalize (((w.alloc (.cells #[ptrV P] 70)).alloc (.cells (reC k x s (.slice ad n cap) mn mx) 33)).alloc (.cells #[.nilFunc] 130)).alloc (.cells #[.func (.func 95) #[] #[ptrV w.heap.size, ptrV (w.heap.size + 1 + 1)]] 131) = W4 at *
  go_upto_region 4 with fail
  have HE := hid (show Env P w.heap.size (w.heap.size + 1 + 1) (w.heap.size + 1 + 1 + 1) (W4.setCell ⟨w.heap.size + 1 + 1, 0, none⟩ (.func (.func 96) #[] #[ptrV w.heap.size, ptrV (w.heap.size + 1 + 1), ptrV (w.heap.size + 1 + 1 + 1)])) from
    ⟨(box_other _ (by omega)).trans F0.out, heap_setCell_same _ _ _ _ _ _ F2.out, (box_other _ (by omega)).trans F3.out, by omega, by omega, by omega⟩)
  have HB := hid (show (W4.setCell ⟨w.heap.size + 1 + 1, 0, none⟩ (.func (.func 96) #[] #[ptrV w.heap.size, ptrV (w.heap.size + 1 + 1), ptrV (w.heap.size + 1 + 1 + 1)])).heap[w.heap.size + 1]? = some (.cells (reC k x s (.slice ad n cap) mn mx) 33 (0, 0)) from (box_other _ (by omega)).trans F1.out)
  have HU5 := hid (show Upd P w (W4.setCell ⟨w.heap.size + 1 + 1, 0, none⟩ (.func (.func 96) #[] #[ptrV w.heap.size, ptrV (w.heap.size + 1 + 1), ptrV (w.heap.size + 1 + 1 + 1)])) from
    ⟨HU4.out.os, HU4.out.tape, HU4.out.output, by simpa using HU4.out.size, fun q hq hp hc => (box_other _ (by omega)).trans (HU4.out.block q hq hp hc)⟩)
  have HW5 := hid (show SW P (W4.setCell ⟨w.heap.size + 1 + 1, 0, none⟩ (.func (.func 96) #[] #[ptrV w.heap.size, ptrV (w.heap.size + 1 + 1), ptrV (w.heap.size + 1 + 1 + 1)])) d m l from by
    obtain ⟨v, h1, h2⟩ := HW4.out
    refine ⟨v, (box_other _ (by omega)).trans h1, ownsRow_same h2 fun q cur hq _ => box_other _ ?_⟩
    rintro rfl
    rw [F2.out] at hq
    cases hq)
  generalize W4.setCell ⟨w.heap.size + 1 + 1, 0, none⟩ (.func (.func 96) #[] #[ptrV w.heap.size, ptrV (w.heap.size + 1 + 1), ptrV (w.heap.size + 1 + 1 + 1)]) = W5 at *
  obtain ⟨c0, c1, c2, c3, c4, c5, c6, c7, c8⟩ := nine_of HB.out
  have cp := cell_blk (i := 0) HE.out.bp rfl
  have hcall := HP.out _ W5 d m l (HG.out.upd HU5.out) HE.out HW5.out hdm hD hm hL
  clear g2 z2
  go_wp2_with (go_at_call 96; refine hcall.mono ?_; clear hcall; rintro e W6 ⟨rfl, hw6, hu6⟩)
  go_end0
  exact ⟨rfl, hw6, HU5.out.trans hu6⟩
end Go.Proofs.YtfljcfdfgojdoaaGreatDoor.Sh

/- ParseDeep: what the lexer and the parser make of a row of brackets and of signs that say not; no program in sight. -/
namespace Go.Proofs.YtfljcfdfgojdoaaGreatDoor
open Go.Lib

def sg (c : B) (p : Nat) : Tok := ⟨4, [c], Se.none, 0, p⟩
def aSet : Se := ⟨0, 8589934592, 0, 0⟩
/-- the tokens of the text, by their places -/
structure DeepT (T : List Tok) (b n : Nat) : Prop where
  opn : ∀ i, i < b → tokAt T i = sg 40 i
  nts : ∀ i, b ≤ i → i < b + n → tokAt T i = sg 33 i
  set : tokAt T (b + n) = ⟨3, [], aSet, 0, ((b + n : Nat) : Int)⟩
  sht : ∀ i, b + n < i → i ≤ 2 * b + n → tokAt T i = sg 41 (i + 2)
  fin : (tokAt T (2 * b + n + 1)).kind = 0 ∧ (tokAt T (2 * b + n + 1)).text = []
theorem isB_sg (c d : B) (p : Nat) : isB (sg c p) [d] = (c == d) := by simp [isB, sg]
/-- a token at which an expression has ended -/
structure Ends (t : Tok) : Prop where
  s : ∀ d : B, d ≠ 41 → isB t [d] = false
  b : beginsB t = false
theorem Ends.shut (p : Nat) : Ends (sg 41 p) := ⟨fun d h => by rw [isB_sg]; exact beq_eq_false_iff_ne.2 (Ne.symm h), rfl⟩
theorem Ends.fin {t : Tok} (h : t.kind = 0) : Ends t := ⟨fun d _ => by simp [isB, h], by simp [beginsB, isB, h]⟩
theorem DeepT.ends {T : List Tok} {b n : Nat} (h : DeepT T b n) {i : Nat} (h1 : b + n < i) (h2 : i ≤ 2 * b + n + 1) : Ends (tokAt T i) := by
  by_cases hi : i = 2 * b + n + 1
  · subst hi; exact .fin h.fin.1
  · rw [h.sht i h1 (by omega)]; exact .shut _
end Go.Proofs.YtfljcfdfgojdoaaGreatDoor

namespace Go.Proofs.YtfljcfdfgojdoaaGreatDoor
open Go.Lib

theorem base_parts {t t' : Tok} (h : t'.base = t.base) : t'.kind = t.kind ∧ t'.text = t.text ∧ t'.set = t.set ∧ t'.num = t.num := by
  cases t; cases t'
  unfold Tok.base at h
  simp only [Tok.mk.injEq] at h
  exact ⟨h.1, h.2.1, h.2.2.1, h.2.2.2.1⟩
theorem isB_same {t t' : Tok} (h : t'.base = t.base) (s : List B) : isB t' s = isB t s := by
  obtain ⟨h1, h2, _, _⟩ := base_parts h
  unfold isB; rw [h1, h2]
theorem begins_same {t t' : Tok} (h : t'.base = t.base) : beginsB t' = beginsB t := by
  obtain ⟨h1, h2, _, _⟩ := base_parts h
  unfold beginsB; rw [h1, h2, isB_same h, isB_same h]
/-- L tokens of T stand in T', from off on; behind them T is at its end, and in T' an expression ends -/
structure Al (T T' : List Tok) (L off : Nat) : Prop where
  same : ∀ i, i < L → (tokAt T' (off + i)).base = (tokAt T i).base
  fin : (tokAt T L).kind = 0
  nz : ∀ i, i < L → (tokAt T i).kind ≠ 0
  ends : Ends (tokAt T' (off + L))
  len : T.length ≤ T'.length
section
variable {T T' : List Tok} {L off : Nat}
theorem Al.lt (h : Al T T' L off) {a : Nat} (ha : a ≤ L) (hk : (tokAt T a).kind ≠ 0) : a < L := by
  rcases Nat.lt_or_eq_of_le ha with hl | rfl
  · exact hl
  · exact absurd h.fin hk
theorem Al.isB (h : Al T T' L off) {a : Nat} (ha : a ≤ L) {d : B} (hd : d ≠ 41) : isB (tokAt T' (off + a)) [d] = Go.Proofs.YtfljcfdfgojdoaaGreatDoor.isB (tokAt T a) [d] := by
  rcases Nat.lt_or_eq_of_le ha with hl | rfl
  · exact isB_same (h.same a hl) _
  · rw [h.ends.s d hd]
    unfold Go.Proofs.YtfljcfdfgojdoaaGreatDoor.isB
    rw [h.fin]; rfl
end
end Go.Proofs.YtfljcfdfgojdoaaGreatDoor
