/-
  SameRe returns true at two expressions in memory that are read as one.
  SameMap returns true at two maps in memory that are read as one. (Printed by genJ.py.)
-/
import Derived.Test.YtfljcfdfgojdoaaGreatDoorAa09
import Derived.StillTailTactics
import Derived.Test.YtfljcfdfgojdoaaGreatDoorAa17
namespace Go.Proofs.YtfljcfdfgojdoaaGreatDoor
open Go.RowKit Go.Lib

theorem eq24 (a b c d a' b' c' d' : Int) (w : World) : (Op.equalIn 10000 30 (.agg #[.int .u64 a, .int .u64 b, .int .u64 c, .int .u64 d]) (.agg #[.int .u64 a', .int .u64 b', .int .u64 c', .int .u64 d'])).run Tryz.prog w = .ok (a == a' && b == b' && c == c' && d == d') w := by
  have u3 := Tryz.underlying28
  have a3 := Tryz.isAgg22
  have z3 := Tryz.sizeOf22
  rw [show (10000 : Nat) = 9999 + 1 from rfl, Op.equalIn]
  simp only [Sem.run_bind, run_underlying Tryz.underlying30, Result.andThen_ok]
  simp only [Std.Legacy.Range.forIn_eq_forIn_range', Std.Legacy.Range.size, Nat.sub_zero, Nat.add_sub_cancel, Nat.div_one, List.range'_succ, List.range'_zero, List.forIn_cons, List.forIn_nil]
  go_simp
  by_cases h1 : a = a' <;> by_cases h2 : b = b' <;> by_cases h3 : c = c' <;> by_cases h4 : d = d' <;> simp [h1, h2, h3, h4]
theorem PartsIn.at {F : Nat → Prop} {w : World} : ∀ {l : List Re} {xs : List Value} {i : Nat} {r : Re}, PartsIn F w l xs → l[i]? = some r → ∃ k x s ad n cap mn mx, ReIn F w r (reC k x s (.slice ad n cap) mn mx) ∧ ∀ j v, (reC k x s (.slice ad n cap) mn mx).toList[j]? = some v → xs[i * 9 + j]? = some v
  | [], xs, i, r, h, hi => by simp at hi
  | r0 :: rs, xs, 0, r, h, hi => by
    simp at hi; subst hi
    unfold PartsIn at h
    obtain ⟨cs, rest, rfl, h1, h2⟩ := h
    obtain ⟨k, x, s, ad, n, cap, mn, mx, rfl⟩ := h1.cells
    refine ⟨k, x, s, ad, n, cap, mn, mx, h1, fun j v hv => ?_⟩
    rw [Nat.zero_mul, Nat.zero_add, List.getElem?_append_left (List.getElem?_eq_some_iff.1 hv).1]
    exact hv
  | r0 :: rs, xs, i + 1, r, h, hi => by
    unfold PartsIn at h
    obtain ⟨cs, rest, rfl, h1, h2⟩ := h
    obtain ⟨k, x, s, ad, n, cap, mn, mx, h3, h4⟩ := PartsIn.at (i := i) (r := r) h2 (by simpa using hi)
    obtain ⟨k', x', s', ad', n', cap', mn', mx', rfl⟩ := h1.cells
    refine ⟨k, x, s, ad, n, cap, mn, mx, h3, fun j v hv => ?_⟩
    have e : (i + 1) * 9 + j = (reC k' x' s' (.slice ad' n' cap') mn' mx').toList.length + (i * 9 + j) := by simp; omega
    rw [e, List.getElem?_append_right (Nat.le_add_right _ _), Nat.add_sub_cancel_left]
    exact h4 j v hv

/-- the parts of a tree, as cells of a block -/
theorem ReIn.open {F : Nat → Prop} {w : World} {k : Int} {x : List B} {s : Se} {ps : List Re} {mn mx : Int} {cs : Array Value} (h : ReIn F w (.mk k x s ps mn mx) cs) :
    ∃ ad cap, cs = reC k x s (.slice ad ps.length cap) mn mx ∧ ((ps = [] ∧ ad = none) ∨ ∃ g, ad = some ⟨g, 0, none⟩ ∧ g < w.heap.size ∧ ps.length ≤ cap ∧ cap ≤ maxLen ∧
      ∀ i r, ps[i]? = some r → ∃ k x s ad n cap mn mx, ReIn F w r (reC k x s (.slice ad n cap) mn mx) ∧ ∀ j v, (reC k x s (.slice ad n cap) mn mx).toList[j]? = some v → w.cell? ⟨g, i * 9 + j, none⟩ = some v) := by
  unfold ReIn at h
  obtain ⟨ad, cap, xs, rfl, ho, _, hp⟩ := h
  refine ⟨ad, cap, rfl, ?_⟩
  rcases ho.2 with ⟨hv, hn⟩ | ⟨g, cap', cur, hv, _, hg, hn, hm, hsz, htk⟩
  · injection hv with h1 h2 h3
    exact .inl ⟨List.length_eq_zero_iff.1 hn, h1⟩
  · injection hv with h1 h2 h3
    subst h1
    subst h3
    refine .inr ⟨g, rfl, (Array.getElem?_eq_some_iff.1 hg).1, hn, hm, fun i r hi => ?_⟩
    obtain ⟨k, x, s, ad, n, cap, mn, mx, h3, h4⟩ := hp.at hi
    refine ⟨k, x, s, ad, n, cap, mn, mx, h3, fun j v hv => ?_⟩
    have hadd : (⟨g, 0, none⟩ : Addr).add (i * 9 + j) = ⟨g, i * 9 + j, none⟩ := by unfold Addr.add; split <;> simp_all
    rw [← hadd]
    exact ho.cells (g := g) rfl _ _ (h4 j v hv)

set_option maxRecDepth 100000 in
set_option maxHeartbeats 2000000 in
theorem same_yes : ∀ (N : Nat) (r : Re), SizeOf.sizeOf r < N → ∀ (F F' : Nat → Prop) (cs cs' : Array Value) (w : World), ReIn F w r cs → ReIn F' w r cs' →
    Calls Tryz.prog 19 #[.agg cs, .agg cs'] w fun e w' => e = .returned (.bool true) ∧ Below w.heap.size w w' := by
  intro N
  induction N with
  | zero => intro r h; omega
  | succ N ih =>
    intro r hN F F' cs cs' w h h'
    obtain ⟨k, x, s, ps, mn, mx⟩ := r
    obtain ⟨ad, cap, rfl, ho⟩ := h.open
    obtain ⟨ad', cap', rfl, ho'⟩ := h'.open
    have H := hid h
    have H' := hid h'
    have IH := hid ih
    clear h h' ih
    have HO := hid ho
    have HO' := hid ho'
    clear ho ho'
    have e24 := eq24
    have hlen : ps.length ≤ 9223372036854775807 := by
      rcases HO.out with ⟨h, _⟩ | ⟨g, _, _, h1, h2, _⟩
      · rw [h]; simp
      · unfold maxLen at h2; omega
    go_enter Tryz.func19, Tryz.ntmps19
    go_wp2
    have hb0 : Below w.heap.size w ((w.alloc (.cells (reC k x s (.slice ad ps.length cap) mn mx) 33)).alloc (.cells (reC k x s (.slice ad' ps.length cap') mn mx) 33)) := ((Below.refl _ w).alloc (Nat.le_refl _) _).alloc (by simp) _
    go_loopw [5] (fun v wr => ∃ i : Nat, i ≤ ps.length ∧ v = .int .i64 i ∧ Below (w.heap.size + 2) ((w.alloc (.cells (reC k x s (.slice ad ps.length cap) mn mx) 33)).alloc (.cells (reC k x s (.slice ad' ps.length cap') mn mx) 33)) wr) (fun v _ => ps.length - (RowKit.intOf v).toNat)
    case atStart => exact ⟨0, Nat.zero_le _, rfl, Below.refl _ _⟩
    case round =>
      obtain ⟨i, hi, rfl, hb⟩ := hrel
      have c3 : wr.cell? ⟨w.heap.size, 6, none⟩ = some (.slice ad ps.length cap) := cell_of_row _ _ 6 _ _ _ ((hb.block w.heap.size (by omega)).trans (heap_alloc2_old _ _ _))
      have c3' : wr.cell? ⟨w.heap.size + 1, 6, none⟩ = some (.slice ad' ps.length cap') := cell_of_row _ _ 6 _ _ _ ((hb.block (w.heap.size + 1) (by omega)).trans (heap_alloc2_new _ _ _))
      have hwr : Below w.heap.size w wr := hb0.trans (hb.mono (by omega))
      have hsz : w.heap.size + 2 ≤ wr.heap.size := by have := hb.size; simp at this; omega
      by_cases hlt : i < ps.length
      · obtain ⟨g, rfl, hgl, hcap, hcm, hparts⟩ := HO.out.resolve_left (by rintro ⟨h, _⟩; rw [h] at hlt; simp at hlt)
        obtain ⟨g', rfl, hgl', hcap', hcm', hparts'⟩ := HO'.out.resolve_left (by rintro ⟨h, _⟩; rw [h] at hlt; simp at hlt)
        obtain ⟨k1, x1, s1, ad1, n1, cap1, mn1, mx1, hr1, hc⟩ := hparts i ps[i] (List.getElem?_eq_getElem hlt)
        obtain ⟨k2, x2, s2, ad2, n2, cap2, mn2, mx2, hr2, hc'⟩ := hparts' i ps[i] (List.getElem?_eq_getElem hlt)
        have low : ∀ (j : Nat) (q : Nat), q < w.heap.size → ∀ {v : Value}, w.cell? ⟨q, i * 9 + j, none⟩ = some v → wr.cell? ⟨q, i * 9 + j, none⟩ = some v := fun j q hq v h => (hwr.cell (p := ⟨q, i * 9 + j, none⟩) hq).trans h
        have a0 : wr.cell? ⟨g, i * 9, none⟩ = _ := low 0 g hgl (hc 0 _ rfl)
        have b0 : wr.cell? ⟨g', i * 9, none⟩ = _ := low 0 g' hgl' (hc' 0 _ rfl)
        have a1 := low 1 g hgl (hc 1 _ rfl)
        have b1 := low 1 g' hgl' (hc' 1 _ rfl)
        have a2 := low 2 g hgl (hc 2 _ rfl)
        have b2 := low 2 g' hgl' (hc' 2 _ rfl)
        have a3 := low 3 g hgl (hc 3 _ rfl)
        have b3 := low 3 g' hgl' (hc' 3 _ rfl)
        have a4 := low 4 g hgl (hc 4 _ rfl)
        have b4 := low 4 g' hgl' (hc' 4 _ rfl)
        have a5 := low 5 g hgl (hc 5 _ rfl)
        have b5 := low 5 g' hgl' (hc' 5 _ rfl)
        have a6 := low 6 g hgl (hc 6 _ rfl)
        have b6 := low 6 g' hgl' (hc' 6 _ rfl)
        have a7 := low 7 g hgl (hc 7 _ rfl)
        have b7 := low 7 g' hgl' (hc' 7 _ rfl)
        have a8 := low 8 g hgl (hc 8 _ rfl)
        have b8 := low 8 g' hgl' (hc' 8 _ rfl)
        have hq1 := hid (hr1.frame (F' := F) (w' := wr) (fun _ h _ => h) (fun q _ hq => hwr.block q hq))
        have hq2 := hid (hr2.frame (F' := F') (w' := wr) (fun _ h _ => h) (fun q _ hq => hwr.block q hq))
        have hsz1 : SizeOf.sizeOf ps[i] < N := by
          have h1 := List.sizeOf_lt_of_mem (List.getElem_mem hlt)
          simp only [Re.mk.sizeOf_spec] at hN
          omega
        have hgi : (i : Int) < (ps.length : Int) := by omega
        clear hparts hparts' hc hc' low hr1 hr2
        go_wp2
        go_still_tail 10, (by kernel_rfl)
        change wpList _ _ _ _ _ wr.drew
        have hd1 := ReIn.frame (F := F) (F' := F) (w := wr) (w' := wr.drew) (fun _ h _ => h) (fun _ _ _ => rfl) hq1.out
        have hd2 := ReIn.frame (F := F') (F' := F') (w := wr) (w' := wr.drew) (fun _ h _ => h) (fun _ _ _ => rfl) hq2.out
        clear a0 a1 a2 a3 a4 a5 a6 a7 a8 b0 b1 b2 b3 b4 b5 b6 b7 b8
        go_wp2_with (go_at_call 19; refine (IH.out _ hsz1 F F' _ _ _ hd1 hd2).mono ?_; rintro e w3 ⟨rfl, hb3⟩)
        go_roundw
        case rel => exact ⟨i + 1, by omega, by go_num, hb.drew.trans (hb3.mono (by show _ ≤ wr.heap.size; omega))⟩
        case measure => simp [RowKit.intOf]; omega
      · obtain rfl : i = ps.length := by omega
        go_wp2
        go_ret
        exact ⟨rfl, hwr⟩
end Go.Proofs.YtfljcfdfgojdoaaGreatDoor

namespace Go.Proofs.YtfljcfdfgojdoaaGreatDoor
open Go.RowKit Go.Lib

theorem MpsIn.at {F : Nat → Prop} {w : World} : ∀ {l : List Mp} {xs : List Value} {i : Nat} {r : Mp}, MpsIn F w l xs → l[i]? = some r → ∃ m : Mw, MpIn F w r m.cs ∧ ∀ j v, m.cs.toList[j]? = some v → xs[i * 14 + j]? = some v
  | [], xs, i, r, h, hi => by simp at hi
  | r0 :: rs, xs, 0, r, h, hi => by
    simp at hi; subst hi
    unfold MpsIn at h
    obtain ⟨cs, rest, rfl, h1, h2⟩ := h
    obtain ⟨m, rfl⟩ := h1.mw
    refine ⟨m, h1, fun j v hv => ?_⟩
    rw [Nat.zero_mul, Nat.zero_add, List.getElem?_append_left (List.getElem?_eq_some_iff.1 hv).1]
    exact hv
  | r0 :: rs, xs, i + 1, r, h, hi => by
    unfold MpsIn at h
    obtain ⟨cs, rest, rfl, h1, h2⟩ := h
    obtain ⟨m, h3, h4⟩ := MpsIn.at (i := i) (r := r) h2 (by simpa using hi)
    obtain ⟨m', rfl⟩ := h1.mw
    refine ⟨m, h3, fun j v hv => ?_⟩
    have e : (i + 1) * 14 + j = m'.cs.toList.length + (i * 14 + j) := by simp; omega
    rw [e, List.getElem?_append_right (Nat.le_add_right _ _), Nat.add_sub_cancel_left]
    exact h4 j v hv
/-- the parts of a map, as cells of a block -/
theorem MpIn.open {F : Nat → Prop} {w : World} {k : Int} {r : Re} {o : List B} {ps : List Mp} {mn mx : Int} {cs : Array Value} (h : MpIn F w (.mk k r o ps mn mx) cs) :
    ∃ rk rx rs ra rl rc rn rm ad cap, cs = mpC k rk rx rs (.slice ra rl rc) rn rm o (.slice ad ps.length cap) mn mx ∧ ReIn F w r (reC rk rx rs (.slice ra rl rc) rn rm) ∧ ((ps = [] ∧ ad = none) ∨ ∃ g, ad = some ⟨g, 0, none⟩ ∧ g < w.heap.size ∧ ps.length ≤ cap ∧ cap ≤ maxLen ∧
      ∀ i r, ps[i]? = some r → ∃ m : Mw, MpIn F w r m.cs ∧ ∀ j v, m.cs.toList[j]? = some v → w.cell? ⟨g, i * 14 + j, none⟩ = some v) := by
  unfold MpIn at h
  obtain ⟨rk, rx, rs, rv, rn, rm, ad, cap, xs, rfl, h0, ho, _, hp⟩ := h
  obtain ⟨_, _, _, ra, rl, rc, _, _, he⟩ := h0.cells
  have e6 : rv = .slice ra rl rc := by
    have := congrArg (fun c : Array Value => c[6]?) he
    simpa using this
  subst e6
  refine ⟨rk, rx, rs, ra, rl, rc, rn, rm, ad, cap, rfl, h0, ?_⟩
  rcases ho.2 with ⟨hv, hn⟩ | ⟨g, cap', cur, hv, _, hg, hn, hm, hsz, htk⟩
  · injection hv with h1 h2 h3
    exact .inl ⟨List.length_eq_zero_iff.1 hn, h1⟩
  · injection hv with h1 h2 h3
    subst h1
    subst h3
    refine .inr ⟨g, rfl, (Array.getElem?_eq_some_iff.1 hg).1, hn, hm, fun i r hi => ?_⟩
    obtain ⟨m, h3, h4⟩ := hp.at hi
    refine ⟨m, h3, fun j v hv => ?_⟩
    have hadd : (⟨g, 0, none⟩ : Addr).add (i * 14 + j) = ⟨g, i * 14 + j, none⟩ := by unfold Addr.add; split <;> simp_all
    rw [← hadd]
    exact ho.cells (g := g) rfl _ _ (h4 j v hv)

set_option maxRecDepth 100000 in
set_option maxHeartbeats 4000000 in
theorem samemap_yes : ∀ (N : Nat) (r : Mp), SizeOf.sizeOf r < N → ∀ (F F' : Nat → Prop) (cs cs' : Array Value) (w : World), MpIn F w r cs → MpIn F' w r cs' →
    Calls Tryz.prog 23 #[.agg cs, .agg cs'] w fun e w' => e = .returned (.bool true) ∧ Below w.heap.size w w' := by
  intro N
  induction N with
  | zero => intro r h; omega
  | succ N ih =>
    intro r hN F F' cs cs' w h h'
    obtain ⟨k, re, o, ps, mn, mx⟩ := r
    obtain ⟨rk, rx, rs, ra, rl, rc, rn, rm, ad, cap, rfl, hre, ho⟩ := h.open
    obtain ⟨rk', rx', rs', ra', rl', rc', rn', rm', ad', cap', rfl, hre', ho'⟩ := h'.open
    have IH := hid ih
    have HRE := hid hre
    have HRE' := hid hre'
    clear h h' ih hre hre'
    have HO := hid ho
    have HO' := hid ho'
    clear ho ho'
    have hlen : ps.length ≤ 9223372036854775807 := by
      rcases HO.out with ⟨h, _⟩ | ⟨g, _, _, h1, h2, _⟩
      · rw [h]; simp
      · unfold maxLen at h2; omega
    go_enter Tryz.func23, Tryz.ntmps23
    have hb0 : Below w.heap.size w ((w.alloc (.cells (mpC k rk rx rs (.slice ra rl rc) rn rm o (.slice ad ps.length cap) mn mx) 36)).alloc (.cells (mpC k rk' rx' rs' (.slice ra' rl' rc') rn' rm' o (.slice ad' ps.length cap') mn mx) 36)) := ((Below.refl _ w).alloc (Nat.le_refl _) _).alloc (by simp) _
    have HW := hid (show ReIn F ((w.alloc (.cells (mpC k rk rx rs (.slice ra rl rc) rn rm o (.slice ad ps.length cap) mn mx) 36)).alloc (.cells (mpC k rk' rx' rs' (.slice ra' rl' rc') rn' rm' o (.slice ad' ps.length cap') mn mx) 36)) re (reC rk rx rs (.slice ra rl rc) rn rm) from HRE.out.frame (fun _ h => fun _ => h) (fun q _ hq => hb0.block q hq))
    have HW' := hid (show ReIn F' ((w.alloc (.cells (mpC k rk rx rs (.slice ra rl rc) rn rm o (.slice ad ps.length cap) mn mx) 36)).alloc (.cells (mpC k rk' rx' rs' (.slice ra' rl' rc') rn' rm' o (.slice ad' ps.length cap') mn mx) 36)) re (reC rk' rx' rs' (.slice ra' rl' rc') rn' rm') from HRE'.out.frame (fun _ h => fun _ => h) (fun q _ hq => hb0.block q hq))
    go_wp2_with (go_at_call 19; refine (same_yes _ re (Nat.lt_succ_self _) F F' _ _ _ HW.out HW'.out).mono ?_; rintro e w1 ⟨rfl, hb1⟩; have HQ1 := hid ((hb1.block w.heap.size (by simp; omega)).trans (heap_alloc2_old _ _ _)); have HQ2 := hid ((hb1.block (w.heap.size + 1) (by simp)).trans (heap_alloc2_new _ _ _)); have c10 := cell_of_row _ _ 10 _ _ _ HQ1.out; have c10' := cell_of_row _ _ 10 _ _ _ HQ2.out; have c11 := cell_of_row _ _ 11 _ _ _ HQ1.out; have c11' := cell_of_row _ _ 11 _ _ _ HQ2.out; have c12 := cell_of_row _ _ 12 _ _ _ HQ1.out; have c12' := cell_of_row _ _ 12 _ _ _ HQ2.out; have c13 := cell_of_row _ _ 13 _ _ _ HQ1.out; have c13' := cell_of_row _ _ 13 _ _ _ HQ2.out; simp at c10 c10' c11 c11' c12 c12' c13 c13')
    have hs1 : w.heap.size + 2 ≤ w1.heap.size := by have := hb1.size; simpa using this
    clear c10 c10' c11 c11' c12 c12' c13 c13'
    have hbw1 : Below w.heap.size w w1 := hb0.trans (hb1.mono (by simp; omega))
    go_loopw [5] (fun v wr => ∃ i : Nat, i ≤ ps.length ∧ v = .int .i64 i ∧ Below (w.heap.size + 2) w1 wr) (fun v _ => ps.length - (RowKit.intOf v).toNat)
    case atStart => exact ⟨0, Nat.zero_le _, rfl, Below.refl _ _⟩
    case round =>
      obtain ⟨i, hi, rfl, hb⟩ := hrel
      have c3 : wr.cell? ⟨w.heap.size, 11, none⟩ = some (.slice ad ps.length cap) := cell_of_row _ _ 11 _ _ _ ((hb.block w.heap.size (by omega)).trans HQ1.out)
      have c3' : wr.cell? ⟨w.heap.size + 1, 11, none⟩ = some (.slice ad' ps.length cap') := cell_of_row _ _ 11 _ _ _ ((hb.block (w.heap.size + 1) (by omega)).trans HQ2.out)
      have hwr : Below w.heap.size w wr := hbw1.trans (hb.mono (by omega))
      have hsz : w.heap.size + 2 ≤ wr.heap.size := by have := hb.size; omega
      by_cases hlt : i < ps.length
      · obtain ⟨g, rfl, hgl, hcap, hcm, hparts⟩ := HO.out.resolve_left (by rintro ⟨h, _⟩; rw [h] at hlt; simp at hlt)
        obtain ⟨g', rfl, hgl', hcap', hcm', hparts'⟩ := HO'.out.resolve_left (by rintro ⟨h, _⟩; rw [h] at hlt; simp at hlt)
        obtain ⟨m1, hr1, hc⟩ := hparts i ps[i] (List.getElem?_eq_getElem hlt)
        obtain ⟨m2, hr2, hc'⟩ := hparts' i ps[i] (List.getElem?_eq_getElem hlt)
        have low : ∀ (j : Nat) (q : Nat), q < w.heap.size → ∀ {v : Value}, w.cell? ⟨q, i * 14 + j, none⟩ = some v → wr.cell? ⟨q, i * 14 + j, none⟩ = some v := fun j q hq v h => (hwr.cell (p := ⟨q, i * 14 + j, none⟩) hq).trans h
        have a0 : wr.cell? ⟨g, i * 14, none⟩ = _ := low 0 g hgl (hc 0 _ rfl)
        have b0 : wr.cell? ⟨g', i * 14, none⟩ = _ := low 0 g' hgl' (hc' 0 _ rfl)
        have a1 := low 1 g hgl (hc 1 _ rfl)
        have b1 := low 1 g' hgl' (hc' 1 _ rfl)
        have a2 := low 2 g hgl (hc 2 _ rfl)
        have b2 := low 2 g' hgl' (hc' 2 _ rfl)
        have a3 := low 3 g hgl (hc 3 _ rfl)
        have b3 := low 3 g' hgl' (hc' 3 _ rfl)
        have a4 := low 4 g hgl (hc 4 _ rfl)
        have b4 := low 4 g' hgl' (hc' 4 _ rfl)
        have a5 := low 5 g hgl (hc 5 _ rfl)
        have b5 := low 5 g' hgl' (hc' 5 _ rfl)
        have a6 := low 6 g hgl (hc 6 _ rfl)
        have b6 := low 6 g' hgl' (hc' 6 _ rfl)
        have a7 := low 7 g hgl (hc 7 _ rfl)
        have b7 := low 7 g' hgl' (hc' 7 _ rfl)
        have a8 := low 8 g hgl (hc 8 _ rfl)
        have b8 := low 8 g' hgl' (hc' 8 _ rfl)
        have a9 := low 9 g hgl (hc 9 _ rfl)
        have b9 := low 9 g' hgl' (hc' 9 _ rfl)
        have a10 := low 10 g hgl (hc 10 _ rfl)
        have b10 := low 10 g' hgl' (hc' 10 _ rfl)
        have a11 := low 11 g hgl (hc 11 _ rfl)
        have b11 := low 11 g' hgl' (hc' 11 _ rfl)
        have a12 := low 12 g hgl (hc 12 _ rfl)
        have b12 := low 12 g' hgl' (hc' 12 _ rfl)
        have a13 := low 13 g hgl (hc 13 _ rfl)
        have b13 := low 13 g' hgl' (hc' 13 _ rfl)
        have hq1 := hid (hr1.frame (F' := F) (w' := wr) (fun _ h _ => h) (fun q _ hq => hwr.block q hq))
        have hq2 := hid (hr2.frame (F' := F') (w' := wr) (fun _ h _ => h) (fun q _ hq => hwr.block q hq))
        have hsz1 : SizeOf.sizeOf ps[i] < N := by
          have h1 := List.sizeOf_lt_of_mem (List.getElem_mem hlt)
          simp only [Mp.mk.sizeOf_spec] at hN
          omega
        have hgi : (i : Int) < (ps.length : Int) := by omega
        clear hparts hparts' hc hc' low hr1 hr2
        go_wp2
        go_still_tail 10, (by kernel_rfl)
        change wpList _ _ _ _ _ wr.drew
        have hd1 := MpIn.frame (F := F) (F' := F) (w := wr) (w' := wr.drew) (fun _ h _ => h) (fun _ _ _ => rfl) hq1.out
        have hd2 := MpIn.frame (F := F') (F' := F') (w := wr) (w' := wr.drew) (fun _ h _ => h) (fun _ _ _ => rfl) hq2.out
        clear a0 a1 a2 a3 a4 a5 a6 a7 a8 a9 a10 a11 a12 a13 b0 b1 b2 b3 b4 b5 b6 b7 b8 b9 b10 b11 b12 b13
        go_wp2_with (go_at_call 23; refine (IH.out _ hsz1 F F' _ _ _ hd1 hd2).mono ?_; rintro e w3 ⟨rfl, hb3⟩)
        go_roundw
        case rel => exact ⟨i + 1, by omega, by go_num, hb.drew.trans (hb3.mono (by show _ ≤ wr.heap.size; omega))⟩
        case measure => simp [RowKit.intOf]; omega
      · obtain rfl : i = ps.length := by omega
        go_wp2
        go_ret
        exact ⟨rfl, hwr⟩
end Go.Proofs.YtfljcfdfgojdoaaGreatDoor
