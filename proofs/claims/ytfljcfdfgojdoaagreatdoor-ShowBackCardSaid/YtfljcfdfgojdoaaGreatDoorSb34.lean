/-
  part: the closure that writes an expression asked for at a level.
  part: a sign that says not, how often, brackets; the contract of re.
-/
import Derived.Test.YtfljcfdfgojdoaaGreatDoorSb33
import Derived.StillTailTactics
namespace Go.Proofs.YtfljcfdfgojdoaaGreatDoor.Sh
open Go.RowKit Go.Lib Go.Proofs.YtfljcfdfgojdoaaGreatDoor

theorem Node.short {k : Int} {x : List B} {s : Se} {n : Nat} {mn mx : Int} (h : Node k x s n mn mx) : x.length ≤ 1000 := by
  cases h <;> first | (simp; done) | omega
theorem askW_own {r : Re} {asked : Nat} (h : ¬ lev r < asked) : askW setS r asked = reW setS r ∧ askD r asked = reD r := by
  unfold askW askD
  rw [if_neg h, if_neg h]
  exact ⟨rfl, rfl⟩
theorem str_eq (l : List B) : (⟨l.toArray⟩ : ByteArray).data.toList = l := rfl
theorem str_size (l : List B) : (⟨l.toArray⟩ : ByteArray).size = l.length := by show l.toArray.size = _; simp
/-- the nine cells of an expression in a block, in a world -/
def Nine (W : World) (g : Nat) (k : Int) (x : List B) (s : Se) (v : Value) (mn mx : Int) : Prop :=
  W.cell? ⟨g, 0, none⟩ = some (.int .i64 k) ∧ W.cell? ⟨g, 1, none⟩ = some (.string ⟨x.toArray⟩) ∧ W.cell? ⟨g, 2, none⟩ = some (.int .u64 s.a) ∧ W.cell? ⟨g, 3, none⟩ = some (.int .u64 s.b) ∧ W.cell? ⟨g, 4, none⟩ = some (.int .u64 s.c) ∧ W.cell? ⟨g, 5, none⟩ = some (.int .u64 s.d) ∧ W.cell? ⟨g, 6, none⟩ = some v ∧ W.cell? ⟨g, 7, none⟩ = some (.int .i64 mn) ∧ W.cell? ⟨g, 8, none⟩ = some (.int .i64 mx)
theorem nine_of {W : World} {g : Nat} {k : Int} {x : List B} {s : Se} {v : Value} {mn mx : Int} (h : W.heap[g]? = some (.cells (reC k x s v mn mx) 33 (0, 0))) : Nine W g k x s v mn mx :=
  ⟨cell_blk h rfl, cell_blk h rfl, cell_blk h rfl, cell_blk h rfl, cell_blk h rfl, cell_blk h rfl, cell_blk h rfl, cell_blk h rfl, cell_blk h rfl⟩

set_option maxRecDepth 100000 in
set_option maxHeartbeats 1000000 in
theorem part_leaf {P Bw Bp Bj : Nat} {k : Int} {x : List B} {s : Se} (hn : Node k x s 0 0 0) (hk : k = 1 ∨ k = 2 ∨ k = 3) (hs : SeOk s) {asked : Nat} (ha : asked ≤ 5) : PartOk P Bw Bp Bj (.mk k x s [] 0 0) asked := by
  intro cs w d m l hr hE hW hdm hD hm hL
  obtain ⟨ad, cap, rfl, _, _⟩ := hr.open
  have hlv : ¬ lev (.mk k x s [] 0 0) < asked := by
    show ¬ levK k < asked
    rcases hk with rfl | rfl | rfl <;> exact Nat.not_lt.2 ha
  obtain ⟨e1, e2⟩ := askW_own hlv
  have e3 : reW setS (.mk k x s [] 0 0) = leafW setS k x s := by
    rw [reW]
    rcases hk with rfl | rfl | rfl <;> rfl
  have e4 : reD (.mk k x s [] 0 0) = 0 := by
    rw [reD]
    rcases hk with rfl | rfl | rfl <;> rfl
  rw [e1, e3] at hL
  rw [e1, e2, e3, e4]
  have HQ := hid (show WPost P w d (max m (d + 0)) (l ++ leafW setS k x s) = WPost P w d m (l ++ leafW setS k x s) by rw [Nat.add_zero, Nat.max_eq_left hdm])
  rw [HQ.out]
  have hlf := leaf_any (k := k) (x := x) (s := s) (.slice ad 0 cap) 0 0
  have HN := hid (And.intro hk (And.intro hs (Node.short hn)))
  have hlv2 : ((levK k : Nat) : Int) = 5 := by rcases hk with rfl | rfl | rfl <;> rfl
  have hk1 : (k == 5) = false := by rcases hk with rfl | rfl | rfl <;> rfl
  have hk2 : (k == 6) = false := by rcases hk with rfl | rfl | rfl <;> rfl
  have hk3 : (k == 4) = false := by rcases hk with rfl | rfl | rfl <;> rfl
  have hk4 : (k == 7) = false := by rcases hk with rfl | rfl | rfl <;> rfl
  have hk5 : (k == 8) = false := by rcases hk with rfl | rfl | rfl <;> rfl
  have ha' : ¬ ((5 : Int) < (asked : Int)) := by omega
  have HW := hid hW
  have HE := hid hE
  have hlev := level_any k x s (.slice ad 0 cap) 0 0
  rw [hlv2] at hlev
  have hPw := hW.lt
  have HU0 := hid ((Upd.refl P w).alloc (.cells (reC k x s (.slice ad 0 cap) 0 0) 33))
  have HW0 := hid (hW.alloc (.cells (reC k x s (.slice ad 0 cap) 0 0) 33))
  have hb0 : (w.alloc (.cells (reC k x s (.slice ad 0 cap) 0 0) 33)).heap[w.heap.size]? = some (.cells (reC k x s (.slice ad 0 cap) 0 0) 33 (0, 0)) := heap_alloc_new _ _
  have HFACT := hid (show ∀ W : World, Upd P (w.alloc (.cells (reC k x s (.slice ad 0 cap) 0 0) 33)) W → Nine W w.heap.size k x s (.slice ad 0 cap) 0 0 ∧ W.cell? ⟨Bw, 0, none⟩ = some (ptrV P) from fun W hu =>
    ⟨nine_of (hu.row hb0 (by decide) (by omega)), cell_blk (HE.out.upd (HU0.out.trans hu)).bw rfl⟩)
  obtain ⟨⟨c0, c1, c2, c3, c4, c5, c6, c7, c8⟩, _⟩ := HFACT.out _ (Upd.refl _ _)
  clear hr hE hW hn hk hs hlv e1 e2 e3 e4 hD HQ hlv2 hb0
  go_enter Tryz.func96, Tryz.ntmps96
  go_upto_region 1 with fail
  generalize w.alloc (.cells (reC k x s (.slice ad 0 cap) 0 0) 33) = W0 at *
  go_upto_region 4 with (go_at_call 97; refine (hlev _).mono ?_; clear hlev; rintro e W1 ⟨rfl, hb1⟩; have HU1 := hid (Upd.below (Upd.refl P W0) hb1); have HW1 := hid (HW0.out.below hb1); clear hb1 c0 c1 c2 c3 c4 c5 c6 c7 c8; obtain ⟨⟨c0, c1, c2, c3, c4, c5, c6, c7, c8⟩, cw⟩ := HFACT.out _ HU1.out)
  have HFQ := hid (show ∀ W : World, Upd P W0 W → W.cell? ⟨Bw, 0, none⟩ = some (ptrV P) ∧ Nine W w.heap.size k x s (.slice ad 0 cap) 0 0 from fun W h => ⟨(HFACT.out W h).2, (HFACT.out W h).1⟩)
  have HUD := hid HU1.out.drew
  have HWD := hid (show SW P W1.drew d m l from by obtain ⟨v, h1, h2⟩ := HW1.out; exact ⟨v, h1, h2⟩)
  have hlff := fun W => hlf W HN.out.1 HN.out.2.1 HN.out.2.2
  go_region_held3 (fun W => W.cell? ⟨Bw, 0, none⟩ = some (ptrV P) ∧ W.cell? ⟨w.heap.size, 0, none⟩ = some (.int .i64 k) ∧ W.cell? ⟨w.heap.size, 1, none⟩ = some (.string ⟨x.toArray⟩) ∧ W.cell? ⟨w.heap.size, 2, none⟩ = some (.int .u64 s.a) ∧ W.cell? ⟨w.heap.size, 3, none⟩ = some (.int .u64 s.b) ∧ W.cell? ⟨w.heap.size, 4, none⟩ = some (.int .u64 s.c) ∧ W.cell? ⟨w.heap.size, 5, none⟩ = some (.int .u64 s.d) ∧ W.cell? ⟨w.heap.size, 6, none⟩ = some (.slice ad 0 cap) ∧ W.cell? ⟨w.heap.size, 7, none⟩ = some (.int .i64 0) ∧ W.cell? ⟨w.heap.size, 8, none⟩ = some (.int .i64 0)) (first | exact HFQ.out _ HU3.out | exact HFQ.out _ HU2.out | exact HFQ.out _ HUD.out | exact HFQ.out _ HU1.out)
    ((first | (go_at_call 103; refine (hlff _).mono ?_; clear hlff; rintro e W2 ⟨rfl, hb2⟩; have HU2 := hid (Upd.below HUD.out hb2); have HW2 := hid (HWD.out.below hb2); clear hb2) | (go_at_call 86; refine (put_any ⟨(leafW setS k x s).toArray⟩ HW2.out (by rw [str_size]; omega)).mono ?_; rintro e W3 ⟨rfl, hw3, hu3⟩; have HU3 := hid (HU2.out.trans hu3); have HW3 := hid hw3; clear hu3 hw3)))
  all_goals
    go_wp2
    go_end0
    exact ⟨rfl, HW3.out, HU0.out.trans HU3.out⟩

set_option maxRecDepth 100000 in
set_option maxHeartbeats 1000000 in
theorem part_row {P Bw Bp Bj : Nat} {k : Int} (hk : k = 4 ∨ k = 5 ∨ k = 6) (ps : List Re) (hp : ∀ p ∈ ps, PartOk P Bw Bp Bj p (needK k)) {asked : Nat} (ha : ¬ levK k < asked) : PartOk P Bw Bp Bj (.mk k [] Se.none ps 0 0) asked := by
  intro cs w d m l hr hE hW hdm hD hm hL
  obtain ⟨ad, cap, rfl, hlen, hps⟩ := hr.open
  have hlv : ¬ lev (.mk k [] Se.none ps 0 0) < asked := ha
  obtain ⟨e1, e2⟩ := askW_own hlv
  have e3 : reW setS (.mk k [] Se.none ps 0 0) = partsW setS (sepK k) (needK k) ps := by
    rw [reW]
    rcases hk with rfl | rfl | rfl <;> rfl
  have e4 : reD (.mk k [] Se.none ps 0 0) = partsD (needK k) ps := by
    rw [reD]
    rcases hk with rfl | rfl | rfl <;> rfl
  rw [e1, e3] at hL
  rw [e2, e4] at hD
  rw [e1, e2, e3, e4]
  have ha' : ¬ ((levK k : Int) < (asked : Int)) := by omega
  have hlev := level_any k [] Se.none (.slice ad ps.length cap) 0 0
  have HW := hid hW
  have HE := hid hE
  have hPw := hW.lt
  have HU0 := hid ((Upd.refl P w).alloc (.cells (reC k [] Se.none (.slice ad ps.length cap) 0 0) 33))
  have HW0 := hid (hW.alloc (.cells (reC k [] Se.none (.slice ad ps.length cap) 0 0) 33))
  have hb0 : (w.alloc (.cells (reC k [] Se.none (.slice ad ps.length cap) 0 0) 33)).heap[w.heap.size]? = some (.cells (reC k [] Se.none (.slice ad ps.length cap) 0 0) 33 (0, 0)) := heap_alloc_new _ _
  have HFACT := hid (show ∀ W : World, Upd P (w.alloc (.cells (reC k [] Se.none (.slice ad ps.length cap) 0 0) 33)) W → Nine W w.heap.size k [] Se.none (.slice ad ps.length cap) 0 0 ∧ W.cell? ⟨Bj, 0, none⟩ = some (.func (.func 95) #[] #[ptrV Bw, ptrV Bp]) from fun W hu =>
    ⟨nine_of (hu.row hb0 (by decide) (by omega)), cell_blk (HE.out.upd (HU0.out.trans hu)).bj rfl⟩)
  have HPS := hid (show ∀ W : World, Upd P w W → ps ≠ [] → ∃ g off, ad = some ⟨g, off, none⟩ ∧ g < P ∧ PartsG (fun g => g < P) W g off ps from fun W hu hne => by
    obtain ⟨g, off, h1, h2, h3⟩ := hps hne
    exact ⟨g, off, h1, h2, h3.frame (fun _ h => h) (fun g hg hl => hu.block g hl (by omega) (.inl hg)) h2⟩)
  have HJ := hid (show ∀ (W : World) (sep : ByteArray) (n : Nat), sep.data.toList = sepK k → n = needK k → Upd P w W → SW P W d m l → Calls Tryz.prog 95 #[.slice ad ps.length cap, .string sep, .int .i64 n, ptrV Bw, ptrV Bp] W (WPost P W d (max m (d + partsD (needK k) ps)) (l ++ partsW setS (sepK k) (needK k) ps)) from fun W sep n h1 h2 hu hw => by
    rw [← h1] at hL ⊢
    subst h2
    exact join_any ps (needK k) sep hp hlen (HPS.out W hu) (HE.out.upd hu) hw hdm hD hm hL)
  obtain ⟨⟨c0, c1, c2, c3, c4, c5, c6, c7, c8⟩, _⟩ := HFACT.out _ (Upd.refl _ _)
  unfold maxLen at hlen
  clear hr hE hW hlv e1 e2 e3 e4 hD hL hb0 hp hps ha HPS
  rcases hk with rfl | rfl | rfl
  · have HJ4 := hid (fun W => HJ.out W ⟨#[32]⟩ 3 rfl rfl)
    clear HJ
    go_enter Tryz.func96, Tryz.ntmps96
    go_upto_region 1 with fail
    generalize w.alloc (.cells (reC 4 [] Se.none (.slice ad ps.length cap) 0 0) 33) = W0 at *
    go_wp2_with (first | (go_at_call 97; refine (hlev _).mono ?_; clear hlev; rintro e W1 ⟨rfl, hb1⟩; have HU1 := hid (Upd.below (Upd.refl P W0) hb1); have HW1 := hid (HW0.out.below hb1); clear hb1 c0 c1 c2 c3 c4 c5 c6 c7 c8; obtain ⟨⟨c0, c1, c2, c3, c4, c5, c6, c7, c8⟩, cj⟩ := HFACT.out _ HU1.out) | (go_at_call 95; refine (HJ4.out W1 (HU0.out.trans HU1.out) HW1.out).mono ?_; rintro e W2 ⟨rfl, hw2, hu2⟩))
    go_end0
    exact ⟨rfl, hw2, HU0.out.trans (HU1.out.trans hu2)⟩
  · have HJ4 := hid (fun W => HJ.out W ⟨#[32, 124, 32]⟩ 1 rfl rfl)
    clear HJ
    go_enter Tryz.func96, Tryz.ntmps96
    go_upto_region 1 with fail
    generalize w.alloc (.cells (reC 5 [] Se.none (.slice ad ps.length cap) 0 0) 33) = W0 at *
    go_wp2_with (first | (go_at_call 97; refine (hlev _).mono ?_; clear hlev; rintro e W1 ⟨rfl, hb1⟩; have HU1 := hid (Upd.below (Upd.refl P W0) hb1); have HW1 := hid (HW0.out.below hb1); clear hb1 c0 c1 c2 c3 c4 c5 c6 c7 c8; obtain ⟨⟨c0, c1, c2, c3, c4, c5, c6, c7, c8⟩, cj⟩ := HFACT.out _ HU1.out) | (go_at_call 95; refine (HJ4.out W1 (HU0.out.trans HU1.out) HW1.out).mono ?_; rintro e W2 ⟨rfl, hw2, hu2⟩))
    go_end0
    exact ⟨rfl, hw2, HU0.out.trans (HU1.out.trans hu2)⟩
  · have HJ4 := hid (fun W => HJ.out W ⟨#[32, 38, 32]⟩ 2 rfl rfl)
    clear HJ
    go_enter Tryz.func96, Tryz.ntmps96
    go_upto_region 1 with fail
    generalize w.alloc (.cells (reC 6 [] Se.none (.slice ad ps.length cap) 0 0) 33) = W0 at *
    go_wp2_with (first | (go_at_call 97; refine (hlev _).mono ?_; clear hlev; rintro e W1 ⟨rfl, hb1⟩; have HU1 := hid (Upd.below (Upd.refl P W0) hb1); have HW1 := hid (HW0.out.below hb1); clear hb1 c0 c1 c2 c3 c4 c5 c6 c7 c8; obtain ⟨⟨c0, c1, c2, c3, c4, c5, c6, c7, c8⟩, cj⟩ := HFACT.out _ HU1.out) | (go_at_call 95; refine (HJ4.out W1 (HU0.out.trans HU1.out) HW1.out).mono ?_; rintro e W2 ⟨rfl, hw2, hu2⟩))
    go_end0
    exact ⟨rfl, hw2, HU0.out.trans (HU1.out.trans hu2)⟩
end Go.Proofs.YtfljcfdfgojdoaaGreatDoor.Sh

namespace Go.Proofs.YtfljcfdfgojdoaaGreatDoor.Sh
open Go.RowKit Go.Lib Go.Proofs.YtfljcfdfgojdoaaGreatDoor

set_option maxRecDepth 100000 in
set_option maxHeartbeats 1000000 in
theorem part_not {P Bw Bp Bj : Nat} (p : Re) (hp : PartOk P Bw Bp Bj p 3) {asked : Nat} (ha : ¬ 3 < asked) : PartOk P Bw Bp Bj (.mk 7 [] Se.none [p] 0 0) asked := by
  intro cs w d m l hr hE hW hdm hD hm hL
  obtain ⟨ad, cap, rfl, hlen, hps⟩ := hr.open
  have hlv : ¬ lev (.mk 7 [] Se.none [p] 0 0) < asked := ha
  obtain ⟨e1, e2⟩ := askW_own hlv
  have e3 : reW setS (.mk 7 [] Se.none [p] 0 0) = 33 :: askW setS p 3 := by
    rw [reW, if_pos rfl, partsW_one]
  have e4 : reD (.mk 7 [] Se.none [p] 0 0) = askD p 3 + 1 := by
    rw [reD, partsD, partsD, if_pos rfl]
    show max (askD p 3) 0 + 1 = _
    omega
  rw [e1, e3] at hL
  rw [e2, e4] at hD
  rw [e1, e2, e3, e4]
  have ha' : ¬ ((3 : Int) < (asked : Int)) := by omega
  have hlev := level_any 7 [] Se.none (.slice ad 1 cap) 0 0
  rw [show ((levK 7 : Nat) : Int) = 3 from rfl] at hlev
  have HW := hid hW
  have HE := hid hE
  have hPw := hW.lt
  have HU0 := hid ((Upd.refl P w).alloc (.cells (reC 7 [] Se.none (.slice ad 1 cap) 0 0) 33))
  have HW0 := hid (hW.alloc (.cells (reC 7 [] Se.none (.slice ad 1 cap) 0 0) 33))
  have hb0 : (w.alloc (.cells (reC 7 [] Se.none (.slice ad 1 cap) 0 0) 33)).heap[w.heap.size]? = some (.cells (reC 7 [] Se.none (.slice ad 1 cap) 0 0) 33 (0, 0)) := heap_alloc_new _ _
  have HFACT := hid (show ∀ W : World, Upd P (w.alloc (.cells (reC 7 [] Se.none (.slice ad 1 cap) 0 0) 33)) W → Nine W w.heap.size 7 [] Se.none (.slice ad 1 cap) 0 0 ∧ W.cell? ⟨Bw, 0, none⟩ = some (ptrV P) ∧ W.cell? ⟨Bp, 0, none⟩ = some (.func (.func 96) #[] #[ptrV Bw, ptrV Bp, ptrV Bj]) from fun W hu =>
    ⟨nine_of (hu.row hb0 (by decide) (by omega)), cell_blk (HE.out.upd (HU0.out.trans hu)).bw rfl, cell_blk (HE.out.upd (HU0.out.trans hu)).bp rfl⟩)
  obtain ⟨g, off, rfl, hgP, hpg⟩ := hps (by simp)
  obtain ⟨k1, x1, s1, ad1, n1, cap1, mn1, mx1, hr1, hc⟩ := hpg.at (i := 0) (r := p) rfl
  have HC := hid (show ∀ W : World, Upd P w W → W.cell? ⟨g, off, none⟩ = some (.int .i64 k1) ∧ W.cell? ⟨g, off + 1, none⟩ = some (.string ⟨x1.toArray⟩) ∧ W.cell? ⟨g, off + 2, none⟩ = some (.int .u64 s1.a) ∧ W.cell? ⟨g, off + 3, none⟩ = some (.int .u64 s1.b) ∧ W.cell? ⟨g, off + 4, none⟩ = some (.int .u64 s1.c) ∧ W.cell? ⟨g, off + 5, none⟩ = some (.int .u64 s1.d) ∧ W.cell? ⟨g, off + 6, none⟩ = some (.slice ad1 n1 cap1) ∧ W.cell? ⟨g, off + 7, none⟩ = some (.int .i64 mn1) ∧ W.cell? ⟨g, off + 8, none⟩ = some (.int .i64 mx1) from fun W hu =>
    ⟨hu.cell hgP (by simpa using hc 0 _ rfl), hu.cell hgP (by simpa using hc 1 _ rfl), hu.cell hgP (by simpa using hc 2 _ rfl), hu.cell hgP (by simpa using hc 3 _ rfl), hu.cell hgP (by simpa using hc 4 _ rfl), hu.cell hgP (by simpa using hc 5 _ rfl), hu.cell hgP (by simpa using hc 6 _ rfl), hu.cell hgP (by simpa using hc 7 _ rfl), hu.cell hgP (by simpa using hc 8 _ rfl)⟩)
  have HCALL := hid (show ∀ (W : World), Upd P w W → SW P W (d + 1) (max m (d + 1)) (l ++ [33]) → Calls Tryz.prog 96 #[.agg (reC k1 x1 s1 (.slice ad1 n1 cap1) mn1 mx1), .int .i64 3, ptrV Bw, ptrV Bp, ptrV Bj] W (WPost P W (d + 1) (max (max m (d + 1)) (d + 1 + askD p 3)) (l ++ [33] ++ askW setS p 3)) from fun W hu hw =>
    hp _ W (d + 1) _ _ (hr1.upd hu) (HE.out.upd hu) hw (by omega) (by omega) (by omega) (by rw [List.length_append]; rw [List.length_cons] at hL; simp only [List.length_cons, List.length_nil]; omega))
  obtain ⟨⟨c0, c1, c2, c3, c4, c5, c6, c7, c8⟩, cw, cp⟩ := HFACT.out _ (Upd.refl _ _)
  clear hr hE hW hlv e1 e2 e3 e4 hb0 hp hps ha hlen hpg hr1 hc
  go_enter Tryz.func96, Tryz.ntmps96
  go_upto_region 1 with fail
  generalize w.alloc (.cells (reC 7 [] Se.none (.slice (some ⟨g, off, none⟩) 1 cap) 0 0) 33) = W0 at *
  go_upto_region 12 with (go_at_call 97; refine (hlev _).mono ?_; clear hlev; rintro e W1 ⟨rfl, hb1⟩; have HU1 := hid (Upd.below (Upd.refl P W0) hb1); have HW1 := hid (HW0.out.below hb1); clear hb1 c0 c1 c2 c3 c4 c5 c6 c7 c8 cw cp; obtain ⟨⟨c0, c1, c2, c3, c4, c5, c6, c7, c8⟩, cw, cp⟩ := HFACT.out _ HU1.out)
  have hput := put_any ⟨#[33]⟩ HW1.out (by rw [List.length_cons] at hL; show l.length + 1 ≤ _; omega)
  go_upto_region 13 with (go_at_call 86; refine hput.mono ?_; clear hput; rintro e W2 ⟨rfl, hw2, hu2⟩; have HU2 := hid (HU1.out.trans hu2); have HW2 := hid hw2; clear hu2 hw2 c0 c1 c2 c3 c4 c5 c6 c7 c8 cw cp; obtain ⟨⟨c0, c1, c2, c3, c4, c5, c6, c7, c8⟩, cw, cp⟩ := HFACT.out _ HU2.out)
  have hent := enter_any HW2.out (by omega) (by omega)
  go_upto_region 14 with (go_at_call 100; refine hent.mono ?_; clear hent; rintro e W3 ⟨rfl, hw3, hu3⟩; have HU3 := hid (HU2.out.trans hu3); have HW3 := hid hw3; clear hu3 hw3 c0 c1 c2 c3 c4 c5 c6 c7 c8 cw cp; obtain ⟨⟨c0, c1, c2, c3, c4, c5, c6, c7, c8⟩, cw, cp⟩ := HFACT.out _ HU3.out; obtain ⟨g0, g1, g2, g3, g4, g5, g6, g7, g8⟩ := HC.out _ (HU0.out.trans HU3.out))
  go_still_tail 5, (by kernel_rfl)
  change wpList _ _ _ _ _ W3.drew
  have HU3D := hid HU3.out.drew
  have HW3D := hid (show SW P W3.drew (d + 1) (max m (d + 1)) (l ++ [33]) from by obtain ⟨v, h1, h2⟩ := HW3.out; exact ⟨v, h1, h2⟩)
  clear c0 c1 c2 c3 c4 c5 c6 c7 c8 cw cp g0 g1 g2 g3 g4 g5 g6 g7 g8
  generalize W3.drew = W4 at *
  go_upto_region 15 with (go_at_call 96; refine (HCALL.out W4 (HU0.out.trans HU3D.out) HW3D.out).mono ?_; rintro e W5 ⟨rfl, hw5, hu5⟩; have HU5 := hid (HU3D.out.trans hu5); have HW5 := hid hw5; clear hu5 hw5; obtain ⟨_, cw, cp⟩ := HFACT.out _ HU5.out)
  have hlea := leave_any HW5.out (by omega)
  go_wp2_with (go_at_call 101; refine hlea.mono ?_; clear hlea; rintro e W6 ⟨rfl, hw6, hu6⟩)
  go_end0
  refine ⟨rfl, ?_, HU0.out.trans (HU5.out.trans hu6)⟩
  rw [show max m (d + (askD p 3 + 1)) = max (max m (d + 1)) (d + 1 + askD p 3) by omega, show l ++ 33 :: askW setS p 3 = l ++ [33] ++ askW setS p 3 by simp]
  exact hw6
theorem oftenW_len (lo hi : Int) : (oftenW lo hi).length ≤ 10 := by
  unfold oftenW
  have h1 := decW_len lo
  have h2 := decW_len hi
  split
  · simp
  · split
    · simp
    · split
      · simp
      · split
        · simp only [List.length_cons, List.length_append, List.length_nil]; omega
        · simp only [List.length_cons, List.length_append, List.length_nil]; omega
set_option maxRecDepth 100000 in
set_option maxHeartbeats 1000000 in
theorem part_rep {P Bw Bp Bj : Nat} (p : Re) {lo hi : Int} (ho : oftOk lo hi) (hp : PartOk P Bw Bp Bj p 5) {asked : Nat} (ha : ¬ 4 < asked) : PartOk P Bw Bp Bj (.mk 8 [] Se.none [p] lo hi) asked := by
  intro cs w d m l hr hE hW hdm hD hm hL
  obtain ⟨ad, cap, rfl, hlen, hps⟩ := hr.open
  have hlv : ¬ lev (.mk 8 [] Se.none [p] lo hi) < asked := ha
  obtain ⟨e1, e2⟩ := askW_own hlv
  have e3 : reW setS (.mk 8 [] Se.none [p] lo hi) = askW setS p 5 ++ oftenW lo hi := by
    rw [reW, if_neg (by decide), if_pos rfl, partsW_one]
  have e4 : reD (.mk 8 [] Se.none [p] lo hi) = askD p 5 := by
    rw [reD, partsD, partsD]
    show max (askD p 5) 0 + 0 = _
    omega
  rw [e1, e3] at hL
  rw [e2, e4] at hD
  rw [e1, e2, e3, e4]
  have ha' : ¬ ((4 : Int) < (asked : Int)) := by omega
  have hlev := level_any 8 [] Se.none (.slice ad 1 cap) lo hi
  rw [show ((levK 8 : Nat) : Int) = 4 from rfl] at hlev
  have HW := hid hW
  have HE := hid hE
  have hPw := hW.lt
  have HU0 := hid ((Upd.refl P w).alloc (.cells (reC 8 [] Se.none (.slice ad 1 cap) lo hi) 33))
  have HW0 := hid (hW.alloc (.cells (reC 8 [] Se.none (.slice ad 1 cap) lo hi) 33))
  have hb0 : (w.alloc (.cells (reC 8 [] Se.none (.slice ad 1 cap) lo hi) 33)).heap[w.heap.size]? = some (.cells (reC 8 [] Se.none (.slice ad 1 cap) lo hi) 33 (0, 0)) := heap_alloc_new _ _
  have HFACT := hid (show ∀ W : World, Upd P (w.alloc (.cells (reC 8 [] Se.none (.slice ad 1 cap) lo hi) 33)) W → Nine W w.heap.size 8 [] Se.none (.slice ad 1 cap) lo hi ∧ W.cell? ⟨Bw, 0, none⟩ = some (ptrV P) ∧ W.cell? ⟨Bp, 0, none⟩ = some (.func (.func 96) #[] #[ptrV Bw, ptrV Bp, ptrV Bj]) from fun W hu =>
    ⟨nine_of (hu.row hb0 (by decide) (by omega)), cell_blk (HE.out.upd (HU0.out.trans hu)).bw rfl, cell_blk (HE.out.upd (HU0.out.trans hu)).bp rfl⟩)
  obtain ⟨g, off, rfl, hgP, hpg⟩ := hps (by simp)
  obtain ⟨k1, x1, s1, ad1, n1, cap1, mn1, mx1, hr1, hc⟩ := hpg.at (i := 0) (r := p) rfl
  have HC := hid (show ∀ W : World, Upd P w W → W.cell? ⟨g, off, none⟩ = some (.int .i64 k1) ∧ W.cell? ⟨g, off + 1, none⟩ = some (.string ⟨x1.toArray⟩) ∧ W.cell? ⟨g, off + 2, none⟩ = some (.int .u64 s1.a) ∧ W.cell? ⟨g, off + 3, none⟩ = some (.int .u64 s1.b) ∧ W.cell? ⟨g, off + 4, none⟩ = some (.int .u64 s1.c) ∧ W.cell? ⟨g, off + 5, none⟩ = some (.int .u64 s1.d) ∧ W.cell? ⟨g, off + 6, none⟩ = some (.slice ad1 n1 cap1) ∧ W.cell? ⟨g, off + 7, none⟩ = some (.int .i64 mn1) ∧ W.cell? ⟨g, off + 8, none⟩ = some (.int .i64 mx1) from fun W hu =>
    ⟨hu.cell hgP (by simpa using hc 0 _ rfl), hu.cell hgP (by simpa using hc 1 _ rfl), hu.cell hgP (by simpa using hc 2 _ rfl), hu.cell hgP (by simpa using hc 3 _ rfl), hu.cell hgP (by simpa using hc 4 _ rfl), hu.cell hgP (by simpa using hc 5 _ rfl), hu.cell hgP (by simpa using hc 6 _ rfl), hu.cell hgP (by simpa using hc 7 _ rfl), hu.cell hgP (by simpa using hc 8 _ rfl)⟩)
  have hol := oftenW_len lo hi
  have HCALL := hid (show ∀ (W : World), Upd P w W → SW P W d m l → Calls Tryz.prog 96 #[.agg (reC k1 x1 s1 (.slice ad1 n1 cap1) mn1 mx1), .int .i64 5, ptrV Bw, ptrV Bp, ptrV Bj] W (WPost P W d (max m (d + askD p 5)) (l ++ askW setS p 5)) from fun W hu hw =>
    hp _ W d _ _ (hr1.upd hu) (HE.out.upd hu) hw hdm hD hm (by rw [List.length_append] at hL; omega))
  obtain ⟨⟨c0, c1, c2, c3, c4, c5, c6, c7, c8⟩, cw, cp⟩ := HFACT.out _ (Upd.refl _ _)
  clear hr hE hW hlv e1 e2 e3 e4 hb0 hp hps ha hlen hpg hr1 hc
  go_enter Tryz.func96, Tryz.ntmps96
  go_upto_region 1 with fail
  generalize w.alloc (.cells (reC 8 [] Se.none (.slice (some ⟨g, off, none⟩) 1 cap) lo hi) 33) = W0 at *
  go_upto_region 17 with (go_at_call 97; refine (hlev _).mono ?_; clear hlev; rintro e W1 ⟨rfl, hb1⟩; have HU1 := hid (Upd.below (Upd.refl P W0) hb1); have HW1 := hid (HW0.out.below hb1); clear hb1 c0 c1 c2 c3 c4 c5 c6 c7 c8 cw cp; obtain ⟨⟨c0, c1, c2, c3, c4, c5, c6, c7, c8⟩, cw, cp⟩ := HFACT.out _ HU1.out; obtain ⟨g0, g1, g2, g3, g4, g5, g6, g7, g8⟩ := HC.out _ (HU0.out.trans HU1.out))
  go_still_tail 5, (by kernel_rfl)
  change wpList _ _ _ _ _ W1.drew
  have HU1D := hid HU1.out.drew
  have HW1D := hid (show SW P W1.drew d m l from by obtain ⟨v, h1, h2⟩ := HW1.out; exact ⟨v, h1, h2⟩)
  clear c0 c1 c2 c3 c4 c5 c6 c7 c8 cw cp g0 g1 g2 g3 g4 g5 g6 g7 g8
  generalize W1.drew = W4 at *
  go_upto_region 18 with (go_at_call 96; refine (HCALL.out W4 (HU0.out.trans HU1D.out) HW1D.out).mono ?_; rintro e W5 ⟨rfl, hw5, hu5⟩; have HU5 := hid (HU1D.out.trans hu5); have HW5 := hid hw5; clear hu5 hw5; obtain ⟨⟨c0, c1, c2, c3, c4, c5, c6, c7, c8⟩, cw, cp⟩ := HFACT.out _ HU5.out)
  have HFQ := hid (show ∀ W : World, Upd P W0 W → W.cell? ⟨Bw, 0, none⟩ = some (ptrV P) ∧ W.cell? ⟨w.heap.size, 7, none⟩ = some (.int .i64 lo) ∧ W.cell? ⟨w.heap.size, 8, none⟩ = some (.int .i64 hi) from fun W h => by
    obtain ⟨⟨_, _, _, _, _, _, _, c7, c8⟩, cw, _⟩ := HFACT.out W h
    exact ⟨cw, c7, c8⟩)
  have HUD := hid HU5.out.drew
  have HWD := hid (show SW P W5.drew d (max m (d + askD p 5)) (l ++ askW setS p 5) from by obtain ⟨v, h1, h2⟩ := HW5.out; exact ⟨v, h1, h2⟩)
  have HPUT := hid (show ∀ W : World, SW P W d (max m (d + askD p 5)) (l ++ askW setS p 5) → _ from fun W h => put_any ⟨(oftenW lo hi).toArray⟩ h (by rw [str_size]; rw [List.length_append] at hL ⊢; omega))
  have hoft := often_any lo hi ho
  go_region_held3 (fun W => W.cell? ⟨Bw, 0, none⟩ = some (ptrV P) ∧ W.cell? ⟨w.heap.size, 7, none⟩ = some (.int .i64 lo) ∧ W.cell? ⟨w.heap.size, 8, none⟩ = some (.int .i64 hi)) (first | exact HFQ.out _ HU6.out | exact HFQ.out _ HUD.out | exact HFQ.out _ HU5.out)
    ((first | (go_at_call 102; refine (hoft _).mono ?_; rintro e W7 ⟨rfl, rfl⟩) | (go_at_call 86; refine (HPUT.out _ HWD.out).mono ?_; rintro e W6 ⟨rfl, hw6, hu6⟩; have HU6 := hid (HUD.out.trans hu6); have HW6 := hid hw6; clear hu6 hw6)))
  all_goals
    go_wp2
    go_end0
    exact ⟨rfl, by rw [← List.append_assoc]; exact HW6.out, HU0.out.trans HU6.out⟩
end Go.Proofs.YtfljcfdfgojdoaaGreatDoor.Sh
