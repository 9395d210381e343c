/-
  SameMap returns true at two maps in memory that are read as one. (Printed by genJ.py.)
  SameItems returns true at two slices of items in memory that are read as one. (Printed by genK.py.)
-/
import Derived.Test.YtfljcfdfgojdoaaGreatDoorSb22
namespace Go.Proofs.YtfljcfdfgojdoaaGreatDoor
open Go.RowKit Go.Lib

theorem MpsIn.at {F : Nat → Prop} {w : World} : ∀ {l : List Mp} {xs : List Value} {i : Nat} {r : Mp}, MpsIn F w l xs → l[i]? = some r → ∃ m : Mw, MpIn F w r m.cs ∧ ∀ j v, m.cs.toList[j]? = some v → xs[i * 14 + j]? = some v
  | [], xs, i, r, h, hi => by simp at hi
  | r0 :: rs, xs, 0, r, h, hi => by
    simp at hi; subst hi
    unfold MpsIn at h
    obtain ⟨cs, rest, rfl, h1, h2⟩ := h
    obtain ⟨m, rfl⟩ := h1.mw
    refine ⟨m, h1, fun j v hv => ?_⟩
    rw [Nat.zero_mul, Nat.zero_add, List.getElem?_append_left (List.getElem?_eq_some_iff.1 hv).1]
    exact hv
  | r0 :: rs, xs, i + 1, r, h, hi => by
    unfold MpsIn at h
    obtain ⟨cs, rest, rfl, h1, h2⟩ := h
    obtain ⟨m, h3, h4⟩ := MpsIn.at (i := i) (r := r) h2 (by simpa using hi)
    obtain ⟨m', rfl⟩ := h1.mw
    refine ⟨m, h3, fun j v hv => ?_⟩
    have e : (i + 1) * 14 + j = m'.cs.toList.length + (i * 14 + j) := by simp; omega
    rw [e, List.getElem?_append_right (Nat.le_add_right _ _), Nat.add_sub_cancel_left]
    exact h4 j v hv
/-- the parts of a map, as cells of a block -/
theorem MpIn.open {F : Nat → Prop} {w : World} {k : Int} {r : Re} {o : List B} {ps : List Mp} {mn mx : Int} {cs : Array Value} (h : MpIn F w (.mk k r o ps mn mx) cs) :
    ∃ rk rx rs ra rl rc rn rm ad cap, cs = mpC k rk rx rs (.slice ra rl rc) rn rm o (.slice ad ps.length cap) mn mx ∧ ReIn F w r (reC rk rx rs (.slice ra rl rc) rn rm) ∧ ((ps = [] ∧ ad = none) ∨ ∃ g, ad = some ⟨g, 0, none⟩ ∧ g < w.heap.size ∧ ps.length ≤ cap ∧ cap ≤ maxLen ∧
      ∀ i r, ps[i]? = some r → ∃ m : Mw, MpIn F w r m.cs ∧ ∀ j v, m.cs.toList[j]? = some v → w.cell? ⟨g, i * 14 + j, none⟩ = some v) := by
  unfold MpIn at h
  obtain ⟨rk, rx, rs, rv, rn, rm, ad, cap, xs, rfl, h0, ho, _, hp⟩ := h
  obtain ⟨_, _, _, ra, rl, rc, _, _, he⟩ := h0.cells
  have e6 : rv = .slice ra rl rc := by
    have := congrArg (fun c : Array Value => c[6]?) he
    simpa using this
  subst e6
  refine ⟨rk, rx, rs, ra, rl, rc, rn, rm, ad, cap, rfl, h0, ?_⟩
  rcases ho.2 with ⟨hv, hn⟩ | ⟨g, cap', cur, hv, _, hg, hn, hm, hsz, htk⟩
  · injection hv with h1 h2 h3
    exact .inl ⟨List.length_eq_zero_iff.1 hn, h1⟩
  · injection hv with h1 h2 h3
    subst h1
    subst h3
    refine .inr ⟨g, rfl, (Array.getElem?_eq_some_iff.1 hg).1, hn, hm, fun i r hi => ?_⟩
    obtain ⟨m, h3, h4⟩ := hp.at hi
    refine ⟨m, h3, fun j v hv => ?_⟩
    have hadd : (⟨g, 0, none⟩ : Addr).add (i * 14 + j) = ⟨g, i * 14 + j, none⟩ := by unfold Addr.add; split <;> simp_all
    rw [← hadd]
    exact ho.cells (g := g) rfl _ _ (h4 j v hv)

set_option maxRecDepth 100000 in
set_option maxHeartbeats 4000000 in
theorem samemap_yes : ∀ (N : Nat) (r : Mp), SizeOf.sizeOf r < N → ∀ (F F' : Nat → Prop) (cs cs' : Array Value) (w : World), MpIn F w r cs → MpIn F' w r cs' →
    Calls Tryz.prog 23 #[.agg cs, .agg cs'] w fun e w' => e = .returned (.bool true) ∧ Below w.heap.size w w' := by
  intro N
  induction N with
  | zero => intro r h; omega
  | succ N ih =>
    intro r hN F F' cs cs' w h h'
    obtain ⟨k, re, o, ps, mn, mx⟩ := r
    obtain ⟨rk, rx, rs, ra, rl, rc, rn, rm, ad, cap, rfl, hre, ho⟩ := h.open
    obtain ⟨rk', rx', rs', ra', rl', rc', rn', rm', ad', cap', rfl, hre', ho'⟩ := h'.open
    have IH := hid ih
    have HRE := hid hre
    have HRE' := hid hre'
    clear h h' ih hre hre'
    have HO := hid ho
    have HO' := hid ho'
    clear ho ho'
    have hlen : ps.length ≤ 9223372036854775807 := by
      rcases HO.out with ⟨h, _⟩ | ⟨g, _, _, h1, h2, _⟩
      · rw [h]; simp
      · unfold maxLen at h2; omega
    go_enter Tryz.func23, Tryz.ntmps23
    have hb0 : Below w.heap.size w ((w.alloc (.cells (mpC k rk rx rs (.slice ra rl rc) rn rm o (.slice ad ps.length cap) mn mx) 36)).alloc (.cells (mpC k rk' rx' rs' (.slice ra' rl' rc') rn' rm' o (.slice ad' ps.length cap') mn mx) 36)) := ((Below.refl _ w).alloc (Nat.le_refl _) _).alloc (by simp) _
    have HW := hid (show ReIn F ((w.alloc (.cells (mpC k rk rx rs (.slice ra rl rc) rn rm o (.slice ad ps.length cap) mn mx) 36)).alloc (.cells (mpC k rk' rx' rs' (.slice ra' rl' rc') rn' rm' o (.slice ad' ps.length cap') mn mx) 36)) re (reC rk rx rs (.slice ra rl rc) rn rm) from HRE.out.frame (fun _ h => fun _ => h) (fun q _ hq => hb0.block q hq))
    have HW' := hid (show ReIn F' ((w.alloc (.cells (mpC k rk rx rs (.slice ra rl rc) rn rm o (.slice ad ps.length cap) mn mx) 36)).alloc (.cells (mpC k rk' rx' rs' (.slice ra' rl' rc') rn' rm' o (.slice ad' ps.length cap') mn mx) 36)) re (reC rk' rx' rs' (.slice ra' rl' rc') rn' rm') from HRE'.out.frame (fun _ h => fun _ => h) (fun q _ hq => hb0.block q hq))
    go_wp2_with (go_at_call 19; refine (same_yes _ re (Nat.lt_succ_self _) F F' _ _ _ HW.out HW'.out).mono ?_; rintro e w1 ⟨rfl, hb1⟩; have HQ1 := hid ((hb1.block w.heap.size (by simp; omega)).trans (heap_alloc2_old _ _ _)); have HQ2 := hid ((hb1.block (w.heap.size + 1) (by simp)).trans (heap_alloc2_new _ _ _)); have c10 := cell_of_row _ _ 10 _ _ _ HQ1.out; have c10' := cell_of_row _ _ 10 _ _ _ HQ2.out; have c11 := cell_of_row _ _ 11 _ _ _ HQ1.out; have c11' := cell_of_row _ _ 11 _ _ _ HQ2.out; have c12 := cell_of_row _ _ 12 _ _ _ HQ1.out; have c12' := cell_of_row _ _ 12 _ _ _ HQ2.out; have c13 := cell_of_row _ _ 13 _ _ _ HQ1.out; have c13' := cell_of_row _ _ 13 _ _ _ HQ2.out; simp at c10 c10' c11 c11' c12 c12' c13 c13')
    have hs1 : w.heap.size + 2 ≤ w1.heap.size := by have := hb1.size; simpa using this
    clear c10 c10' c11 c11' c12 c12' c13 c13'
    have hbw1 : Below w.heap.size w w1 := hb0.trans (hb1.mono (by simp; omega))
    go_loopw [5] (fun v wr => ∃ i : Nat, i ≤ ps.length ∧ v = .int .i64 i ∧ Below (w.heap.size + 2) w1 wr) (fun v _ => ps.length - (RowKit.intOf v).toNat)
    case atStart => exact ⟨0, Nat.zero_le _, rfl, Below.refl _ _⟩
    case round =>
      obtain ⟨i, hi, rfl, hb⟩ := hrel
      have c3 : wr.cell? ⟨w.heap.size, 11, none⟩ = some (.slice ad ps.length cap) := cell_of_row _ _ 11 _ _ _ ((hb.block w.heap.size (by omega)).trans HQ1.out)
      have c3' : wr.cell? ⟨w.heap.size + 1, 11, none⟩ = some (.slice ad' ps.length cap') := cell_of_row _ _ 11 _ _ _ ((hb.block (w.heap.size + 1) (by omega)).trans HQ2.out)
      have hwr : Below w.heap.size w wr := hbw1.trans (hb.mono (by omega))
      have hsz : w.heap.size + 2 ≤ wr.heap.size := by have := hb.size; omega
      by_cases hlt : i < ps.length
      · obtain ⟨g, rfl, hgl, hcap, hcm, hparts⟩ := HO.out.resolve_left (by rintro ⟨h, _⟩; rw [h] at hlt; simp at hlt)
        obtain ⟨g', rfl, hgl', hcap', hcm', hparts'⟩ := HO'.out.resolve_left (by rintro ⟨h, _⟩; rw [h] at hlt; simp at hlt)
        obtain ⟨m1, hr1, hc⟩ := hparts i ps[i] (List.getElem?_eq_getElem hlt)
        obtain ⟨m2, hr2, hc'⟩ := hparts' i ps[i] (List.getElem?_eq_getElem hlt)
        have low : ∀ (j : Nat) (q : Nat), q < w.heap.size → ∀ {v : Value}, w.cell? ⟨q, i * 14 + j, none⟩ = some v → wr.cell? ⟨q, i * 14 + j, none⟩ = some v := fun j q hq v h => (hwr.cell (p := ⟨q, i * 14 + j, none⟩) hq).trans h
        have a0 : wr.cell? ⟨g, i * 14, none⟩ = _ := low 0 g hgl (hc 0 _ rfl)
        have b0 : wr.cell? ⟨g', i * 14, none⟩ = _ := low 0 g' hgl' (hc' 0 _ rfl)
        have a1 := low 1 g hgl (hc 1 _ rfl)
        have b1 := low 1 g' hgl' (hc' 1 _ rfl)
        have a2 := low 2 g hgl (hc 2 _ rfl)
        have b2 := low 2 g' hgl' (hc' 2 _ rfl)
        have a3 := low 3 g hgl (hc 3 _ rfl)
        have b3 := low 3 g' hgl' (hc' 3 _ rfl)
        have a4 := low 4 g hgl (hc 4 _ rfl)
        have b4 := low 4 g' hgl' (hc' 4 _ rfl)
        have a5 := low 5 g hgl (hc 5 _ rfl)
        have b5 := low 5 g' hgl' (hc' 5 _ rfl)
        have a6 := low 6 g hgl (hc 6 _ rfl)
        have b6 := low 6 g' hgl' (hc' 6 _ rfl)
        have a7 := low 7 g hgl (hc 7 _ rfl)
        have b7 := low 7 g' hgl' (hc' 7 _ rfl)
        have a8 := low 8 g hgl (hc 8 _ rfl)
        have b8 := low 8 g' hgl' (hc' 8 _ rfl)
        have a9 := low 9 g hgl (hc 9 _ rfl)
        have b9 := low 9 g' hgl' (hc' 9 _ rfl)
        have a10 := low 10 g hgl (hc 10 _ rfl)
        have b10 := low 10 g' hgl' (hc' 10 _ rfl)
        have a11 := low 11 g hgl (hc 11 _ rfl)
        have b11 := low 11 g' hgl' (hc' 11 _ rfl)
        have a12 := low 12 g hgl (hc 12 _ rfl)
        have b12 := low 12 g' hgl' (hc' 12 _ rfl)
        have a13 := low 13 g hgl (hc 13 _ rfl)
        have b13 := low 13 g' hgl' (hc' 13 _ rfl)
        have hq1 := hid (hr1.frame (F' := F) (w' := wr) (fun _ h _ => h) (fun q _ hq => hwr.block q hq))
        have hq2 := hid (hr2.frame (F' := F') (w' := wr) (fun _ h _ => h) (fun q _ hq => hwr.block q hq))
        have hsz1 : SizeOf.sizeOf ps[i] < N := by
          have h1 := List.sizeOf_lt_of_mem (List.getElem_mem hlt)
          simp only [Mp.mk.sizeOf_spec] at hN
          omega
        have hgi : (i : Int) < (ps.length : Int) := by omega
        clear hparts hparts' hc hc' low hr1 hr2
        go_wp2
        go_still_tail 10, (by kernel_rfl)
        change wpList _ _ _ _ _ wr.drew
        have hd1 := MpIn.frame (F := F) (F' := F) (w := wr) (w' := wr.drew) (fun _ h _ => h) (fun _ _ _ => rfl) hq1.out
        have hd2 := MpIn.frame (F := F') (F' := F') (w := wr) (w' := wr.drew) (fun _ h _ => h) (fun _ _ _ => rfl) hq2.out
        clear a0 a1 a2 a3 a4 a5 a6 a7 a8 a9 a10 a11 a12 a13 b0 b1 b2 b3 b4 b5 b6 b7 b8 b9 b10 b11 b12 b13
        go_wp2_with (go_at_call 23; refine (IH.out _ hsz1 F F' _ _ _ hd1 hd2).mono ?_; rintro e w3 ⟨rfl, hb3⟩)
        go_roundw
        case rel => exact ⟨i + 1, by omega, by go_num, hb.drew.trans (hb3.mono (by show _ ≤ wr.heap.size; omega))⟩
        case measure => simp [RowKit.intOf]; omega
      · obtain rfl : i = ps.length := by omega
        go_wp2
        go_ret
        exact ⟨rfl, hwr⟩
end Go.Proofs.YtfljcfdfgojdoaaGreatDoor

namespace Go.Proofs.YtfljcfdfgojdoaaGreatDoor
open Go.RowKit Go.Lib

/-- a slice of items, wherever it lies -/
structure ItsG (F : Nat → Prop) (w : World) (l : List It) (v : Value) : Prop where
  own : ∃ xs, w.ownsRow 0 65 46 v l.length xs ∧ (∀ g, v.ownBlock = some g → F g) ∧ ItsIn F w l xs
theorem Its.gen {base : Nat} {w : World} {l : List It} {v : Value} (h : Its base w l v) : ItsG (fun g => base ≤ g) w l v := by
  obtain ⟨xs, h1, h2⟩ := h.own
  exact ⟨xs, ownsRow_same h1 (fun _ _ => Nat.zero_le _) (fun _ _ _ => rfl), fun g hg => own_block h1 hg, h2.frame (fun _ hg _ => hg.1) (fun _ _ _ => rfl)⟩
theorem ItsG.frame {F F' : Nat → Prop} {w w' : World} (hF : ∀ g, F g → g < w.heap.size → F' g) (hf : ∀ g, F g → g < w.heap.size → w'.heap[g]? = w.heap[g]?) {l : List It} {v : Value} (h : ItsG F w l v) : ItsG F' w' l v := by
  obtain ⟨xs, h1, h2, h3⟩ := h.own
  exact ⟨xs, ownsRow_same h1 (fun _ _ => Nat.zero_le _) (fun g hg hl => hf g (h2 g hg) hl), fun g hg => hF g (h2 g hg) (own_lt' h1 hg), h3.frame hF hf⟩
theorem ItsIn.at {F : Nat → Prop} {w : World} : ∀ {l : List It} {xs : List Value} {i : Nat} {x : It}, ItsIn F w l xs → l[i]? = some x → ∃ cs : Array Value, ItIn F w x cs ∧ ∀ j v, cs.toList[j]? = some v → xs[i * 46 + j]? = some v
  | [], xs, i, r, h, hi => by simp at hi
  | r0 :: rs, xs, 0, r, ⟨cs, rest, e, h1, h2⟩, hi => by
    simp at hi; subst hi
    refine ⟨cs, h1, fun j v hv => ?_⟩
    rw [e, Nat.zero_mul, Nat.zero_add, List.getElem?_append_left (List.getElem?_eq_some_iff.1 hv).1]
    exact hv
  | r0 :: rs, xs, i + 1, r, ⟨cs, rest, e, h1, h2⟩, hi => by
    obtain ⟨cs', h3, h4⟩ := ItsIn.at (i := i) (x := r) h2 (by simpa using hi)
    have hn : cs.toList.length = 46 := by
      obtain ⟨_, _, _, _, e0, _⟩ := h1.ex
      rw [e0, itC_len]
    refine ⟨cs', h3, fun j v hv => ?_⟩
    have e2 : (i + 1) * 46 + j = cs.toList.length + (i * 46 + j) := by rw [hn]; omega
    rw [e, e2, List.getElem?_append_right (Nat.le_add_right _ _), Nat.add_sub_cancel_left]
    exact h4 j v hv
/-- a slice of items, as cells of a block -/
theorem ItsG.open {F : Nat → Prop} {w : World} {l : List It} {v : Value} (h : ItsG F w l v) : ∃ ad cap, v = .slice ad l.length cap ∧ ((l = [] ∧ ad = none) ∨ ∃ g, ad = some ⟨g, 0, none⟩ ∧ g < w.heap.size ∧ F g ∧ l.length ≤ cap ∧ cap ≤ maxLen ∧
    ∀ i x, l[i]? = some x → ∃ (r : Rw) (m : Mw) (y q : Rw), w.rangeAt g (i * 46) (itC x.kind x.name r m x.out x.by_ x.around y q).toList ∧ ReIn F w x.re r.cs ∧ MpIn F w x.map m.cs ∧ ReIn F w x.left y.cs ∧ ReIn F w x.right q.cs) := by
  obtain ⟨xs, ho, hF, hp⟩ := h.own
  obtain ⟨ad, cap, rfl⟩ := own_shape ho
  refine ⟨ad, cap, rfl, ?_⟩
  rcases ho.2 with ⟨hv, hn⟩ | ⟨g, cap', cur, hv, _, hg, hn, hm, hsz, htk⟩
  · injection hv with h1 h2 h3
    exact .inl ⟨List.length_eq_zero_iff.1 hn, h1⟩
  · injection hv with h1 h2 h3
    subst h1
    subst h3
    refine .inr ⟨g, rfl, (Array.getElem?_eq_some_iff.1 hg).1, hF g rfl, hn, hm, fun i x hi => ?_⟩
    obtain ⟨cs, h3, h4⟩ := hp.at hi
    obtain ⟨r, m, y, q, rfl, i1, i2, i3, i4⟩ := h3.ex
    refine ⟨r, m, y, q, fun j v hv => ?_, i1, i2, i3, i4⟩
    have hadd : (⟨g, 0, none⟩ : Addr).add (i * 46 + j) = ⟨g, i * 46 + j, none⟩ := by unfold Addr.add; split <;> simp_all
    rw [← hadd]
    exact ho.cells (g := g) rfl _ _ (h4 j v hv)
/-- a struct that is read out of a part of a block -/
theorem wpList_load_part {P : Program} {ops : Array Oper} {rest : List Oper} {op : Oper} {a : Act} {w : World} {Q : Exit → Act → World → Prop} (ty : TypeId) (x : Operand) (ho : op.op = .load ty x) (hw : Region.wanted op (yielded ops a.tmps) = true)
    (b o : Nat) (hx : a.eval x = .pointer (some ⟨b, o, none⟩)) (cs : Array Value) (d : TypeDesc) (hc : w.rangeAt b o cs.toList)
    (hu : P.underlying ty = some d) (hd : d.isRow = true) (n : Nat) (hi : (P.info? ty).map (·.size) = some n) (hn : cs.size = n)
    (h : wpList P ops Q rest (a.put op.dst (.agg cs)) w) : wpList P ops Q (op :: rest) a w :=
  BigFrame.wpList_want hw fun _ hK => wp_load_mid ty x ho b o hx cs.toList d hc hu hd (by rw [hi, ← hn]; simp) (hK _ _ (by simpa using h))
theorem wpList_store_newN {P : Program} {ops : Array Oper} {rest : List Oper} {o : Oper} {a : Act} {w : World} {Q : Exit → Act → World → Prop} (hgd : o.guard = none) (ty : TypeId) (x y : Operand) (ho : o.op = .store ty x y)
    (n : Nat) (hi : (P.info? ty).map (·.size) = some n) (t : TypeId) (old : Array Value) (hold : old.size = n)
    (cells : Array Value) (N : Nat) (hN : w.heap.size = N) (hx : a.eval x = .pointer (some ⟨N, 0, none⟩)) (hy : a.eval y = .agg cells) (hn : cells.size = n) (h1 : cells.toList.all (·.oneCell') = true)
    (h : wpList P ops Q rest (a.put o.dst undef) (w.alloc (.cells cells t))) : wpList P ops Q (o :: rest) a (w.alloc (.cells old t)) := by
  subst hN
  exact wpList_store_new hgd ty x y ho n hi t old hold cells hx hy hn h1 h
theorem it_ranges {w : World} {g : Nat} {k : Int} {nm : List B} {r : Rw} {m : Mw} {o b : List B} {ar : Bool} {l q : Rw} (h : w.heap[g]? = some (.cells (itC k nm r m o b ar l q) 65 (0, 0))) :
    w.rangeAt g 2 r.cs.toList ∧ w.rangeAt g 11 m.cs.toList ∧ w.rangeAt g 28 l.cs.toList ∧ w.rangeAt g 37 q.cs.toList := by
  have e1 : (itC k nm r m o b ar l q).extract 2 (2 + 9) = r.cs := by kernel_rfl
  have e2 : (itC k nm r m o b ar l q).extract 11 (11 + 14) = m.cs := by kernel_rfl
  have e3 : (itC k nm r m o b ar l q).extract 28 (28 + 9) = l.cs := by kernel_rfl
  have e4 : (itC k nm r m o b ar l q).extract 37 (37 + 9) = q.cs := by kernel_rfl
  have h1 := World.rangeAt_of_block h 2 9
  have h2 := World.rangeAt_of_block h 11 14
  have h3 := World.rangeAt_of_block h 28 9
  have h4 := World.rangeAt_of_block h 37 9
  rw [e1] at h1
  rw [e2] at h2
  rw [e3] at h3
  rw [e4] at h4
  exact ⟨h1, h2, h3, h4⟩
theorem it_heads {w : World} {g : Nat} {k : Int} {nm : List B} {r : Rw} {m : Mw} {o b : List B} {ar : Bool} {l q : Rw} (h : w.heap[g]? = some (.cells (itC k nm r m o b ar l q) 65 (0, 0))) :
    w.cell? ⟨g, 0, none⟩ = some (.int .i64 k) ∧ w.cell? ⟨g, 1, none⟩ = some (.string ⟨nm.toArray⟩) ∧ w.cell? ⟨g, 25, none⟩ = some (.string ⟨o.toArray⟩) ∧ w.cell? ⟨g, 26, none⟩ = some (.string ⟨b.toArray⟩) ∧ w.cell? ⟨g, 27, none⟩ = some (.bool ar) :=
  ⟨cell_of_row _ _ 0 _ _ _ h, cell_of_row _ _ 1 _ _ _ h, cell_of_row _ _ 25 _ _ _ h, cell_of_row _ _ 26 _ _ _ h, cell_of_row _ _ 27 _ _ _ h⟩

set_option maxRecDepth 100000 in
set_option maxHeartbeats 4000000 in
theorem items_yes {F F' : Nat → Prop} {w : World} {l : List It} {v v' : Value} (h : ItsG F w l v) (h' : ItsG F' w l v') :
    Calls Tryz.prog 25 #[v, v'] w fun e w' => e = .returned (.bool true) ∧ Below w.heap.size w w' := by
  obtain ⟨ad, cap, rfl, ho⟩ := h.open
  obtain ⟨ad', cap', rfl, ho'⟩ := h'.open
  have HO := hid ho
  have HO' := hid ho'
  clear ho ho' h h'
  have hlen : l.length ≤ 9223372036854775807 := by
    rcases HO.out with ⟨h, _⟩ | ⟨g, _, _, _, h1, h2, _⟩
    · rw [h]; simp
    · unfold maxLen at h2; omega
  go_enter Tryz.func25, Tryz.ntmps25
  go_wp2
  go_loopw [5] (fun v wr => ∃ i : Nat, i ≤ l.length ∧ v = .int .i64 i ∧ Below w.heap.size w wr) (fun v _ => l.length - (RowKit.intOf v).toNat)
  case atStart => exact ⟨0, Nat.zero_le _, rfl, Below.refl _ _⟩
  case round =>
    obtain ⟨i, hi, rfl, hb⟩ := hrel
    have hsz := hb.size
    by_cases hlt : i < l.length
    · obtain ⟨g, rfl, hgl, hFg, hcap, hcm, hparts⟩ := HO.out.resolve_left (by rintro ⟨h, _⟩; rw [h] at hlt; simp at hlt)
      obtain ⟨g', rfl, hgl', hFg', hcap', hcm', hparts'⟩ := HO'.out.resolve_left (by rintro ⟨h, _⟩; rw [h] at hlt; simp at hlt)
      obtain ⟨r1, m1, y1, q1, hr1, i11, i12, i13, i14⟩ := hparts i l[i] (List.getElem?_eq_getElem hlt)
      obtain ⟨r2, m2, y2, q2, hr2, i21, i22, i23, i24⟩ := hparts' i l[i] (List.getElem?_eq_getElem hlt)
      have HR1 := hid (show wr.rangeAt g (i * 46) _ from fun j v hv => (hb.cell (p := ⟨g, i * 46 + j, none⟩) hgl).trans (hr1 j v hv))
      have HR2 := hid (show wr.rangeAt g' (i * 46) _ from fun j v hv => (hb.cell (p := ⟨g', i * 46 + j, none⟩) hgl').trans (hr2 j v hv))
      have hfr : ∀ W : World, Below w.heap.size w W → ∀ (G : Nat → Prop) (q : Nat), G q → q < w.heap.size → W.heap[q]? = w.heap[q]? := fun W hW G q _ hq => hW.block q hq
      have HA := hid (show ∀ W : World, Below w.heap.size w W → ReIn F W l[i].re r1.cs ∧ MpIn F W l[i].map m1.cs ∧ ReIn F W l[i].left y1.cs ∧ ReIn F W l[i].right q1.cs from fun W hW => ⟨i11.frame (fun _ h _ => h) (hfr W hW F), i12.frame (fun _ h _ => h) (hfr W hW F), i13.frame (fun _ h _ => h) (hfr W hW F), i14.frame (fun _ h _ => h) (hfr W hW F)⟩)
      have HA' := hid (show ∀ W : World, Below w.heap.size w W → ReIn F' W l[i].re r2.cs ∧ MpIn F' W l[i].map m2.cs ∧ ReIn F' W l[i].left y2.cs ∧ ReIn F' W l[i].right q2.cs from fun W hW => ⟨i21.frame (fun _ h _ => h) (hfr W hW F'), i22.frame (fun _ h _ => h) (hfr W hW F'), i23.frame (fun _ h _ => h) (hfr W hW F'), i24.frame (fun _ h _ => h) (hfr W hW F')⟩)
      have hgi : (i : Int) < (l.length : Int) := by omega
      clear hparts hparts' hr1 hr2 i11 i12 i13 i14 i21 i22 i23 i24 hfr
      generalize l[i] = x at *
      go_upto_region 8 with (first | (with_reducible (show wpList _ _ _ (⟨some 22, Op.load 65 (Operand.tmp 21), _, _, _, _⟩ :: _) _ _); refine wpList_load_part 65 (.tmp 21) rfl (by kernel_rfl) g (i * 46) rfl (itC x.kind x.name r1 m1 x.out x.by_ x.around y1 q1) _ HR1.out Tryz.underlying65 rfl 46 info46 rfl ?_) | (with_reducible (show wpList _ _ _ (⟨some 26, Op.load 65 (Operand.tmp 25), _, _, _, _⟩ :: _) _ _); refine wpList_load_part 65 (.tmp 25) rfl (by kernel_rfl) g' (i * 46) rfl (itC x.kind x.name r2 m2 x.out x.by_ x.around y2 q2) _ (World.rangeAt_alloc HR2.out _) Tryz.underlying65 rfl 46 info46 rfl ?_) | (refine wpList_store_newN rfl 65 (.tmp 6) (.tmp 22) rfl 46 info46 65 itZ rfl (itC x.kind x.name r1 m1 x.out x.by_ x.around y1 q1) wr.heap.size (by simp) rfl rfl (itC_size _ _ _ _ _ _ _ _ _) (itC_one _ _ _ _ _ _ _ _ _) ?_) | (refine wpList_store_newN rfl 65 (.tmp 7) (.tmp 26) rfl 46 info46 65 itZ rfl (itC x.kind x.name r2 m2 x.out x.by_ x.around y2 q2) (wr.heap.size + 1) (by simp) rfl rfl (itC_size _ _ _ _ _ _ _ _ _) (itC_one _ _ _ _ _ _ _ _ _) ?_))
      have HB1 := hid (heap_alloc2_old wr (.cells (itC x.kind x.name r1 m1 x.out x.by_ x.around y1 q1) 65) (.cells (itC x.kind x.name r2 m2 x.out x.by_ x.around y2 q2) 65))
      have HB2 := hid (heap_alloc2_new wr (.cells (itC x.kind x.name r1 m1 x.out x.by_ x.around y1 q1) 65) (.cells (itC x.kind x.name r2 m2 x.out x.by_ x.around y2 q2) 65))
      have hb2 : Below wr.heap.size wr ((wr.alloc (.cells (itC x.kind x.name r1 m1 x.out x.by_ x.around y1 q1) 65)).alloc (.cells (itC x.kind x.name r2 m2 x.out x.by_ x.around y2 q2) 65)) := ((Below.refl _ wr).alloc (Nat.le_refl _) _).alloc (by simp) _
      have hz2 : ((wr.alloc (.cells (itC x.kind x.name r1 m1 x.out x.by_ x.around y1 q1) 65)).alloc (.cells (itC x.kind x.name r2 m2 x.out x.by_ x.around y2 q2) 65)).heap.size = wr.heap.size + 2 := by simp
      generalize ((wr.alloc (.cells (itC x.kind x.name r1 m1 x.out x.by_ x.around y1 q1) 65)).alloc (.cells (itC x.kind x.name r2 m2 x.out x.by_ x.around y2 q2) 65)) = w2 at *
      obtain ⟨k0, k1, k25, k26, k27⟩ := it_heads HB1.out
      obtain ⟨j0, j1, j25, j26, j27⟩ := it_heads HB2.out
      have hw2 : Below w.heap.size w w2 := hb.trans (hb2.mono hsz)
      obtain ⟨A1, A2, A3, A4⟩ := HA.out w2 hw2
      obtain ⟨B1, B2, B3, B4⟩ := HA'.out w2 hw2
      obtain ⟨g1, g2, g3, g4⟩ := it_ranges HB1.out
      obtain ⟨d1, d2, d3, d4⟩ := it_ranges HB2.out
      have GA := hid (And.intro g1 d1)
      have GR := hid (And.intro A1 B1)
      clear A1 A2 A3 A4 B1 B2 B3 B4 g1 g2 g3 g4 d1 d2 d3 d4
      go_upto_region 10 with fail
      clear k0 k1 k25 k26 k27 j0 j1 j25 j26 j27
      have tok1 : True := trivial
      have tok2 : True := trivial
      have tok3 : True := trivial
      go_wp2_with (first | (with_reducible (show wpList _ _ _ (⟨some 61, Op.load 33 (Operand.tmp 60), _, _, _, _⟩ :: _) _ _); refine wpList_load_part 33 (.tmp 60) rfl (by kernel_rfl) wr.heap.size 2 rfl r1.cs _ GA.out.1 Tryz.underlying33 rfl 9 info27 rfl ?_) | (with_reducible (show wpList _ _ _ (⟨some 63, Op.load 33 (Operand.tmp 62), _, _, _, _⟩ :: _) _ _); refine wpList_load_part 33 (.tmp 62) rfl (by kernel_rfl) (wr.heap.size + 1) 2 rfl r2.cs _ GA.out.2 Tryz.underlying33 rfl 9 info27 rfl ?_) | (have _t := tok1; go_at_call 19; refine (same_yes _ x.re (Nat.lt_succ_self _) F F' _ _ _ GR.out.1 GR.out.2).mono ?_; rintro e w3 ⟨rfl, hb3⟩; have hw3 := hw2.trans (hb3.mono hw2.size); have HC1 := hid ((hb3.block wr.heap.size (by omega)).trans HB1.out); have HC2 := hid ((hb3.block (wr.heap.size + 1) (by omega)).trans HB2.out); have hz3 := hb3.size; clear tok1 _t) | (with_reducible (show wpList _ _ _ (⟨some 68, Op.load 33 (Operand.tmp 67), _, _, _, _⟩ :: _) _ _); refine wpList_load_part 33 (.tmp 67) rfl (by kernel_rfl) wr.heap.size 28 rfl y1.cs _ (it_ranges HC1.out).2.2.1 Tryz.underlying33 rfl 9 info27 rfl ?_) | (with_reducible (show wpList _ _ _ (⟨some 70, Op.load 33 (Operand.tmp 69), _, _, _, _⟩ :: _) _ _); refine wpList_load_part 33 (.tmp 69) rfl (by kernel_rfl) (wr.heap.size + 1) 28 rfl y2.cs _ (it_ranges HC2.out).2.2.1 Tryz.underlying33 rfl 9 info27 rfl ?_) | (have _t := tok2; go_at_call 19; refine (same_yes _ x.left (Nat.lt_succ_self _) F F' _ _ _ (HA.out w3 hw3).2.2.1 (HA'.out w3 hw3).2.2.1).mono ?_; rintro e w4 ⟨rfl, hb4⟩; have hw4 := hw3.trans (hb4.mono hw3.size); have HD1 := hid ((hb4.block wr.heap.size (by omega)).trans HC1.out); have HD2 := hid ((hb4.block (wr.heap.size + 1) (by omega)).trans HC2.out); have hz4 := hb4.size; clear tok2 _t) | (with_reducible (show wpList _ _ _ (⟨some 76, Op.load 33 (Operand.tmp 75), _, _, _, _⟩ :: _) _ _); refine wpList_load_part 33 (.tmp 75) rfl (by kernel_rfl) wr.heap.size 37 rfl q1.cs _ (it_ranges HD1.out).2.2.2 Tryz.underlying33 rfl 9 info27 rfl ?_) | (with_reducible (show wpList _ _ _ (⟨some 78, Op.load 33 (Operand.tmp 77), _, _, _, _⟩ :: _) _ _); refine wpList_load_part 33 (.tmp 77) rfl (by kernel_rfl) (wr.heap.size + 1) 37 rfl q2.cs _ (it_ranges HD2.out).2.2.2 Tryz.underlying33 rfl 9 info27 rfl ?_) | (have _t := tok3; go_at_call 19; refine (same_yes _ x.right (Nat.lt_succ_self _) F F' _ _ _ (HA.out w4 hw4).2.2.2 (HA'.out w4 hw4).2.2.2).mono ?_; rintro e w5 ⟨rfl, hb5⟩; have hw5 := hw4.trans (hb5.mono hw4.size); have HE1 := hid ((hb5.block wr.heap.size (by omega)).trans HD1.out); have HE2 := hid ((hb5.block (wr.heap.size + 1) (by omega)).trans HD2.out); have hz5 := hb5.size; clear tok3 _t) | (with_reducible (show wpList _ _ _ (⟨some 84, Op.load 36 (Operand.tmp 83), _, _, _, _⟩ :: _) _ _); refine wpList_load_part 36 (.tmp 83) rfl (by kernel_rfl) wr.heap.size 11 rfl m1.cs _ (it_ranges HE1.out).2.1 Tryz.underlying36 rfl 14 info44 rfl ?_) | (with_reducible (show wpList _ _ _ (⟨some 86, Op.load 36 (Operand.tmp 85), _, _, _, _⟩ :: _) _ _); refine wpList_load_part 36 (.tmp 85) rfl (by kernel_rfl) (wr.heap.size + 1) 11 rfl m2.cs _ (it_ranges HE2.out).2.1 Tryz.underlying36 rfl 14 info44 rfl ?_) | (go_at_call 23; refine (samemap_yes _ x.map (Nat.lt_succ_self _) F F' _ _ _ (HA.out w5 hw5).2.1 (HA'.out w5 hw5).2.1).mono ?_; rintro e w6 ⟨rfl, hb6⟩))
      go_roundw
      case rel => exact ⟨i + 1, by omega, by go_num, hw5.trans (hb6.mono hw5.size)⟩
      case measure => simp [RowKit.intOf]; omega
    · obtain rfl : i = l.length := by omega
      go_wp2
      go_ret
      exact ⟨rfl, hb⟩
end Go.Proofs.YtfljcfdfgojdoaaGreatDoor
