/-
  SameMap returns true at two maps in memory that are read as one. (Printed by genJ.py.)
  SameItems returns true at two slices of items in memory that are read as one. (Printed by genK.py.)
  What the writer of texts keeps in memory, and the contracts of its small methods: put, enter, leave, text.
  Small functions of package show: text, level, mapLevel.
-/
import Derived.Test.YtfljcfdfgojdoaaGreatDoorFa07
import Derived.Test.YtfljcfdfgojdoaaGreatDoorFa06
import Derived.Lib.AppendStr
import Derived.Laws.BytesString
import Derived.BigQuiet
import Derived.Laws.IdiomStrings
namespace Go.Proofs.YtfljcfdfgojdoaaGreatDoor
open Go.RowKit Go.Lib

theorem MpsIn.at {F : Nat → Prop} {w : World} : ∀ {l : List Mp} {xs : List Value} {i : Nat} {r : Mp}, MpsIn F w l xs → l[i]? = some r → ∃ m : Mw, MpIn F w r m.cs ∧ ∀ j v, m.cs.toList[j]? = some v → xs[i * 14 + j]? = some v
  | [], xs, i, r, h, hi => by simp at hi
  | r0 :: rs, xs, 0, r, h, hi => by
    simp at hi; subst hi
    unfold MpsIn at h
    obtain ⟨cs, rest, rfl, h1, h2⟩ := h
    obtain ⟨m, rfl⟩ := h1.mw
    refine ⟨m, h1, fun j v hv => ?_⟩
    rw [Nat.zero_mul, Nat.zero_add, List.getElem?_append_left (List.getElem?_eq_some_iff.1 hv).1]
    exact hv
  | r0 :: rs, xs, i + 1, r, h, hi => by
    unfold MpsIn at h
    obtain ⟨cs, rest, rfl, h1, h2⟩ := h
    obtain ⟨m, h3, h4⟩ := MpsIn.at (i := i) (r := r) h2 (by simpa using hi)
    obtain ⟨m', rfl⟩ := h1.mw
    refine ⟨m, h3, fun j v hv => ?_⟩
    have e : (i + 1) * 14 + j = m'.cs.toList.length + (i * 14 + j) := by simp; omega
    rw [e, List.getElem?_append_right (Nat.le_add_right _ _), Nat.add_sub_cancel_left]
    exact h4 j v hv
/-- the parts of a map, as cells of a block -/
theorem MpIn.open {F : Nat → Prop} {w : World} {k : Int} {r : Re} {o : List B} {ps : List Mp} {mn mx : Int} {cs : Array Value} (h : MpIn F w (.mk k r o ps mn mx) cs) :
    ∃ rk rx rs ra rl rc rn rm ad cap, cs = mpC k rk rx rs (.slice ra rl rc) rn rm o (.slice ad ps.length cap) mn mx ∧ ReIn F w r (reC rk rx rs (.slice ra rl rc) rn rm) ∧ ((ps = [] ∧ ad = none) ∨ ∃ g, ad = some ⟨g, 0, none⟩ ∧ g < w.heap.size ∧ ps.length ≤ cap ∧ cap ≤ maxLen ∧
      ∀ i r, ps[i]? = some r → ∃ m : Mw, MpIn F w r m.cs ∧ ∀ j v, m.cs.toList[j]? = some v → w.cell? ⟨g, i * 14 + j, none⟩ = some v) := by
  unfold MpIn at h
  obtain ⟨rk, rx, rs, rv, rn, rm, ad, cap, xs, rfl, h0, ho, _, hp⟩ := h
  obtain ⟨_, _, _, ra, rl, rc, _, _, he⟩ := h0.cells
  have e6 : rv = .slice ra rl rc := by
    have := congrArg (fun c : Array Value => c[6]?) he
    simpa using this
  subst e6
  refine ⟨rk, rx, rs, ra, rl, rc, rn, rm, ad, cap, rfl, h0, ?_⟩
  rcases ho.2 with ⟨hv, hn⟩ | ⟨g, cap', cur, hv, _, hg, hn, hm, hsz, htk⟩
  · injection hv with h1 h2 h3
    exact .inl ⟨List.length_eq_zero_iff.1 hn, h1⟩
  · injection hv with h1 h2 h3
    subst h1
    subst h3
    refine .inr ⟨g, rfl, (Array.getElem?_eq_some_iff.1 hg).1, hn, hm, fun i r hi => ?_⟩
    obtain ⟨m, h3, h4⟩ := hp.at hi
    refine ⟨m, h3, fun j v hv => ?_⟩
    have hadd : (⟨g, 0, none⟩ : Addr).add (i * 14 + j) = ⟨g, i * 14 + j, none⟩ := by unfold Addr.add; split <;> simp_all
    rw [← hadd]
    exact ho.cells (g := g) rfl _ _ (h4 j v hv)

end Go.Proofs.YtfljcfdfgojdoaaGreatDoor

namespace Go.Proofs.YtfljcfdfgojdoaaGreatDoor
open Go.RowKit Go.Lib

/-- a slice of items, wherever it lies -/
structure ItsG (F : Nat → Prop) (w : World) (l : List It) (v : Value) : Prop where
  own : ∃ xs, w.ownsRow 0 65 46 v l.length xs ∧ (∀ g, v.ownBlock = some g → F g) ∧ ItsIn F w l xs
theorem ItsG.frame {F F' : Nat → Prop} {w w' : World} (hF : ∀ g, F g → g < w.heap.size → F' g) (hf : ∀ g, F g → g < w.heap.size → w'.heap[g]? = w.heap[g]?) {l : List It} {v : Value} (h : ItsG F w l v) : ItsG F' w' l v := by
  obtain ⟨xs, h1, h2, h3⟩ := h.own
  exact ⟨xs, ownsRow_same h1 (fun _ _ => Nat.zero_le _) (fun g hg hl => hf g (h2 g hg) hl), fun g hg => hF g (h2 g hg) (own_lt' h1 hg), h3.frame hF hf⟩
theorem ItsIn.at {F : Nat → Prop} {w : World} : ∀ {l : List It} {xs : List Value} {i : Nat} {x : It}, ItsIn F w l xs → l[i]? = some x → ∃ cs : Array Value, ItIn F w x cs ∧ ∀ j v, cs.toList[j]? = some v → xs[i * 46 + j]? = some v
  | [], xs, i, r, h, hi => by simp at hi
  | r0 :: rs, xs, 0, r, ⟨cs, rest, e, h1, h2⟩, hi => by
    simp at hi; subst hi
    refine ⟨cs, h1, fun j v hv => ?_⟩
    rw [e, Nat.zero_mul, Nat.zero_add, List.getElem?_append_left (List.getElem?_eq_some_iff.1 hv).1]
    exact hv
  | r0 :: rs, xs, i + 1, r, ⟨cs, rest, e, h1, h2⟩, hi => by
    obtain ⟨cs', h3, h4⟩ := ItsIn.at (i := i) (x := r) h2 (by simpa using hi)
    have hn : cs.toList.length = 46 := by
      obtain ⟨_, _, _, _, e0, _⟩ := h1.ex
      rw [e0, itC_len]
    refine ⟨cs', h3, fun j v hv => ?_⟩
    have e2 : (i + 1) * 46 + j = cs.toList.length + (i * 46 + j) := by rw [hn]; omega
    rw [e, e2, List.getElem?_append_right (Nat.le_add_right _ _), Nat.add_sub_cancel_left]
    exact h4 j v hv
/-- a slice of items, as cells of a block -/
theorem ItsG.open {F : Nat → Prop} {w : World} {l : List It} {v : Value} (h : ItsG F w l v) : ∃ ad cap, v = .slice ad l.length cap ∧ ((l = [] ∧ ad = none) ∨ ∃ g, ad = some ⟨g, 0, none⟩ ∧ g < w.heap.size ∧ F g ∧ l.length ≤ cap ∧ cap ≤ maxLen ∧
    ∀ i x, l[i]? = some x → ∃ (r : Rw) (m : Mw) (y q : Rw), w.rangeAt g (i * 46) (itC x.kind x.name r m x.out x.by_ x.around y q).toList ∧ ReIn F w x.re r.cs ∧ MpIn F w x.map m.cs ∧ ReIn F w x.left y.cs ∧ ReIn F w x.right q.cs) := by
  obtain ⟨xs, ho, hF, hp⟩ := h.own
  obtain ⟨ad, cap, rfl⟩ := own_shape ho
  refine ⟨ad, cap, rfl, ?_⟩
  rcases ho.2 with ⟨hv, hn⟩ | ⟨g, cap', cur, hv, _, hg, hn, hm, hsz, htk⟩
  · injection hv with h1 h2 h3
    exact .inl ⟨List.length_eq_zero_iff.1 hn, h1⟩
  · injection hv with h1 h2 h3
    subst h1
    subst h3
    refine .inr ⟨g, rfl, (Array.getElem?_eq_some_iff.1 hg).1, hF g rfl, hn, hm, fun i x hi => ?_⟩
    obtain ⟨cs, h3, h4⟩ := hp.at hi
    obtain ⟨r, m, y, q, rfl, i1, i2, i3, i4⟩ := h3.ex
    refine ⟨r, m, y, q, fun j v hv => ?_, i1, i2, i3, i4⟩
    have hadd : (⟨g, 0, none⟩ : Addr).add (i * 46 + j) = ⟨g, i * 46 + j, none⟩ := by unfold Addr.add; split <;> simp_all
    rw [← hadd]
    exact ho.cells (g := g) rfl _ _ (h4 j v hv)
/-- a struct that is read out of a part of a block -/
theorem wpList_load_part {P : Program} {ops : Array Oper} {rest : List Oper} {op : Oper} {a : Act} {w : World} {Q : Exit → Act → World → Prop} (ty : TypeId) (x : Operand) (ho : op.op = .load ty x) (hw : Region.wanted op (yielded ops a.tmps) = true)
    (b o : Nat) (hx : a.eval x = .pointer (some ⟨b, o, none⟩)) (cs : Array Value) (d : TypeDesc) (hc : w.rangeAt b o cs.toList)
    (hu : P.underlying ty = some d) (hd : d.isRow = true) (n : Nat) (hi : (P.info? ty).map (·.size) = some n) (hn : cs.size = n)
    (h : wpList P ops Q rest (a.put op.dst (.agg cs)) w) : wpList P ops Q (op :: rest) a w :=
  BigFrame.wpList_want hw fun _ hK => wp_load_mid ty x ho b o hx cs.toList d hc hu hd (by rw [hi, ← hn]; simp) (hK _ _ (by simpa using h))
theorem wpList_store_newN {P : Program} {ops : Array Oper} {rest : List Oper} {o : Oper} {a : Act} {w : World} {Q : Exit → Act → World → Prop} (hgd : o.guard = none) (ty : TypeId) (x y : Operand) (ho : o.op = .store ty x y)
    (n : Nat) (hi : (P.info? ty).map (·.size) = some n) (t : TypeId) (old : Array Value) (hold : old.size = n)
    (cells : Array Value) (N : Nat) (hN : w.heap.size = N) (hx : a.eval x = .pointer (some ⟨N, 0, none⟩)) (hy : a.eval y = .agg cells) (hn : cells.size = n) (h1 : cells.toList.all (·.oneCell') = true)
    (h : wpList P ops Q rest (a.put o.dst undef) (w.alloc (.cells cells t))) : wpList P ops Q (o :: rest) a (w.alloc (.cells old t)) := by
  subst hN
  exact wpList_store_new hgd ty x y ho n hi t old hold cells hx hy hn h1 h
theorem it_ranges {w : World} {g : Nat} {k : Int} {nm : List B} {r : Rw} {m : Mw} {o b : List B} {ar : Bool} {l q : Rw} (h : w.heap[g]? = some (.cells (itC k nm r m o b ar l q) 65 (0, 0))) :
    w.rangeAt g 2 r.cs.toList ∧ w.rangeAt g 11 m.cs.toList ∧ w.rangeAt g 28 l.cs.toList ∧ w.rangeAt g 37 q.cs.toList := by
  have e1 : (itC k nm r m o b ar l q).extract 2 (2 + 9) = r.cs := by kernel_rfl
  have e2 : (itC k nm r m o b ar l q).extract 11 (11 + 14) = m.cs := by kernel_rfl
  have e3 : (itC k nm r m o b ar l q).extract 28 (28 + 9) = l.cs := by kernel_rfl
  have e4 : (itC k nm r m o b ar l q).extract 37 (37 + 9) = q.cs := by kernel_rfl
  have h1 := World.rangeAt_of_block h 2 9
  have h2 := World.rangeAt_of_block h 11 14
  have h3 := World.rangeAt_of_block h 28 9
  have h4 := World.rangeAt_of_block h 37 9
  rw [e1] at h1
  rw [e2] at h2
  rw [e3] at h3
  rw [e4] at h4
  exact ⟨h1, h2, h3, h4⟩
theorem it_heads {w : World} {g : Nat} {k : Int} {nm : List B} {r : Rw} {m : Mw} {o b : List B} {ar : Bool} {l q : Rw} (h : w.heap[g]? = some (.cells (itC k nm r m o b ar l q) 65 (0, 0))) :
    w.cell? ⟨g, 0, none⟩ = some (.int .i64 k) ∧ w.cell? ⟨g, 1, none⟩ = some (.string ⟨nm.toArray⟩) ∧ w.cell? ⟨g, 25, none⟩ = some (.string ⟨o.toArray⟩) ∧ w.cell? ⟨g, 26, none⟩ = some (.string ⟨b.toArray⟩) ∧ w.cell? ⟨g, 27, none⟩ = some (.bool ar) :=
  ⟨cell_of_row _ _ 0 _ _ _ h, cell_of_row _ _ 1 _ _ _ h, cell_of_row _ _ 25 _ _ _ h, cell_of_row _ _ 26 _ _ _ h, cell_of_row _ _ 27 _ _ _ h⟩

end Go.Proofs.YtfljcfdfgojdoaaGreatDoor

namespace Go.Proofs.YtfljcfdfgojdoaaGreatDoor.Sh
open Go.RowKit Go.Lib Go.Proofs.YtfljcfdfgojdoaaGreatDoor

abbrev bV (c : B) : Value := .int .u8 c.toNat
theorem bnext {w w1 w2 : World} (h : Below w.heap.size w w1) (k : Below w1.heap.size w1 w2) : Below w.heap.size w w2 := h.trans (k.mono h.size)
theorem alloc_old {w : World} {o : Obj} {k : Nat} (h : k < w.heap.size) : (w.alloc o).heap[k]? = w.heap[k]? := Below.heap_alloc _ _ _ h
theorem own_shape {w : World} {base e size n : Nat} {v : Value} {xs : List Value} (h : w.ownsRow base e size v n xs) : ∃ a cap, v = .slice a n cap := by
  rcases h.2 with ⟨rfl, rfl⟩ | ⟨g, cap, cur, rfl, _⟩
  · exact ⟨none, 0, rfl⟩
  · exact ⟨_, _, rfl⟩
theorem lt_of_heap {w : World} {P : Nat} {o : Obj} (h : w.heap[P]? = some o) : P < w.heap.size := (Array.getElem?_eq_some_iff.1 h).1
theorem cell_blk {w : World} {P i : Nat} {cs : Array Value} {T : TypeId} {v : Value} (h : w.heap[P]? = some (.cells cs T (0, 0))) (hv : cs[i]? = some v) : w.cell? ⟨P, i, none⟩ = some v := by simp [World.cell?, h, hv]
theorem free_box {w : World} {P i : Nat} {cs : Array Value} {T : TypeId} (h : w.heap[P]? = some (.cells cs T (0, 0))) : w.frozen? ⟨P, i, none⟩ = false := by simp [World.frozen?, h]
theorem box_other {w : World} {P k i : Nat} (v' : Value) (h : k ≠ P) : (w.setCell ⟨P, i, none⟩ v').heap[k]? = w.heap[k]? := heap_setCell_other _ _ _ _ h
theorem ownsRow_same {w w' : World} {base e size n : Nat} {v : Value} {xs : List Value} (h : w.ownsRow base e size v n xs) (hk : ∀ k cur, w.heap[k]? = some (.cells cur e (0, 0)) → base ≤ k → w'.heap[k]? = w.heap[k]?) : w'.ownsRow base e size v n xs := by
  refine ⟨h.1, ?_⟩
  rcases h.2 with hn | ⟨g, cap, cur, hv, hb, hg, rest⟩
  · exact .inl hn
  · exact .inr ⟨g, cap, cur, hv, hb, (hk g cur hg hb).trans hg, rest⟩
theorem strCells_eq (s : ByteArray) : strCells s = s.data.toList.map bV := rfl

/-- the writer in block P: how many brackets stand open, how many did at most, and what was written -/
def SW (P : Nat) (w : World) (d m : Nat) (l : List B) : Prop :=
  ∃ v, w.heap[P]? = some (.cells #[.int .i64 d, .int .i64 m, v] 75 (0, 0)) ∧ w.ownsRow (P + 1) 5 1 v l.length (l.map bV)
/-- what a writer's method leaves of the world: the blocks ahead of the writer, and whatever holds no bytes -/
structure Upd (P : Nat) (w w' : World) : Prop where
  os : w'.os = w.os
  tape : w'.tape = w.tape
  output : w'.output = w.output
  size : w.heap.size ≤ w'.heap.size
  block : ∀ k, k < w.heap.size → k ≠ P → (k < P ∨ ∀ cur fr, w.heap[k]? ≠ some (.cells cur 5 fr)) → w'.heap[k]? = w.heap[k]?
theorem Upd.refl (P : Nat) (w : World) : Upd P w w := ⟨rfl, rfl, rfl, Nat.le_refl _, fun _ _ _ _ => rfl⟩
theorem Upd.trans {P : Nat} {w w1 w2 : World} (h : Upd P w w1) (k : Upd P w1 w2) : Upd P w w2 :=
  ⟨k.os.trans h.os, k.tape.trans h.tape, k.output.trans h.output, Nat.le_trans h.size k.size, fun i hi hp hc => by
    have h1 := h.block i hi hp hc
    exact (k.block i (Nat.lt_of_lt_of_le hi h.size) hp (hc.imp_right fun hc cur fr => by rw [h1]; exact hc cur fr)).trans h1⟩
theorem Upd.alloc {P : Nat} {w w1 : World} (h : Upd P w w1) (o : Obj) : Upd P w (w1.alloc o) :=
  h.trans ⟨rfl, rfl, rfl, by simp, fun _ hi _ _ => alloc_old hi⟩
theorem Upd.drew {P : Nat} {w w1 : World} (h : Upd P w w1) : Upd P w w1.drew := h.trans ⟨rfl, rfl, rfl, Nat.le_refl _, fun _ _ _ _ => rfl⟩
theorem Upd.below {P : Nat} {w w1 w2 : World} (h : Upd P w w1) (k : Below w1.heap.size w1 w2) : Upd P w w2 :=
  h.trans ⟨k.os, k.tape, k.output, k.size, fun i hi _ _ => k.block i hi⟩
theorem Upd.row {P : Nat} {w w1 : World} (h : Upd P w w1) {k : Nat} {cur : Array Value} {T : TypeId} {fr : Nat × Nat} (hk : w.heap[k]? = some (.cells cur T fr)) (hT : T ≠ 5) (hp : k ≠ P) : w1.heap[k]? = some (.cells cur T fr) :=
  (h.block k (lt_of_heap hk) hp (.inr fun cur' fr' e => by rw [hk] at e; cases e; exact hT rfl)).trans hk
theorem Upd.low {P : Nat} {w w1 : World} (h : Upd P w w1) (hP : P < w.heap.size) : Below P w w1 :=
  ⟨h.os, h.tape, h.output, h.size, fun k hk => h.block k (by omega) (by omega) (.inl hk)⟩
theorem SW.lt {P : Nat} {w : World} {d m : Nat} {l : List B} (h : SW P w d m l) : P < w.heap.size := by
  obtain ⟨v, h1, _⟩ := h; exact lt_of_heap h1
theorem SW.alloc {P : Nat} {w : World} {d m : Nat} {l : List B} (h : SW P w d m l) (o : Obj) : SW P (w.alloc o) d m l := by
  obtain ⟨v, h1, h2⟩ := h
  exact ⟨v, (alloc_old (lt_of_heap h1)).trans h1, h2.alloc o⟩
theorem SW.below {P : Nat} {w w1 : World} {d m : Nat} {l : List B} (h : SW P w d m l) (k : Below w.heap.size w w1) : SW P w1 d m l := by
  obtain ⟨v, h1, h2⟩ := h
  exact ⟨v, (k.block _ (lt_of_heap h1)).trans h1, ownsRow_same h2 fun g cur hg _ => k.block g (lt_of_heap hg)⟩
theorem infoB : (Tryz.prog.info? 5).map (fun i => (i.zero, i.size, i.bytes)) = some (some (.int .u8 0), 1, 1) := by kernel_rfl

set_option maxRecDepth 100000 in
set_option maxHeartbeats 400000 in
theorem put_any {P : Nat} {w : World} {d m : Nat} {l : List B} (s : ByteArray) (h : SW P w d m l) (hn : l.length + s.size ≤ 70368744177664) :
    Calls Tryz.prog 86 #[.pointer (some ⟨P, 0, none⟩), .string s] w fun e w' => e = .returned (.tuple #[]) ∧ SW P w' d m (l ++ s.data.toList) ∧ Upd P w w' := by
  obtain ⟨v, hblk, hown⟩ := h
  obtain ⟨ad, cp, rfl⟩ := own_shape hown
  have hc := cell_blk (i := 2) hblk rfl
  have hf := free_box (i := 2) hblk
  have hP := lt_of_heap hblk
  have HB := hid hblk
  have HO := hid hown
  clear hblk hown
  obtain ⟨i0, hi, hz0, hz1, hz2⟩ := info_parts infoB
  have HI := hid hi
  have HZ := hid (And.intro hz0 (And.intro hz1 hz2))
  clear hi hz0 hz1 hz2
  go_enter Tryz.func86, Tryz.ntmps86
  go_wp2_with (at_builtin; (refine wpList_append_own_string (hgd := rfl) (sl := .tmp 8) (x := .tmp 9) (t := 73) (u := 9) (ho := rfl) (base := P + 1) (e := 5) (i := i0) (ht := Tryz.underlying73) (hu := Tryz.underlying9) (hi := HI.out) (hz := HZ.out.1) (hsize := HZ.out.2.1) (hby := HZ.out.2.2) (v := .slice ad l.length cp) (n := l.length) (xs := l.map bV) (hs := ?a1) (hown := HO.out) (s := s) (hx := ?a2) (h63 := ?a3) (hbytes := ?a4) (hbase := ?a5) (h := ?a6)))
  case a1 => rfl
  case a2 => rfl
  case a3 => unfold maxLen; omega
  case a4 => omega
  case a5 => omega
  intro v' w1 hown' hgrow _
  have hne : ∀ k, k = P → some k ≠ (Value.slice ad l.length cp).ownBlock := fun k hk e => by have := HO.out.lt k e.symm; omega
  have hb1 := (hgrow.block P hP (hne P rfl)).trans HB.out
  have hc1 := cell_blk (i := 2) hb1 rfl
  have hf1 := free_box (i := 2) hb1
  obtain ⟨ad1, cp1, rfl⟩ := own_shape hown'
  have HO1 := hid hown'
  have HG := hid hgrow
  have HB1 := hid hb1
  have HN := hid hne
  clear hown' hgrow hb1 hne
  go_wp2
  go_end0
  refine ⟨rfl, ⟨_, heap_setCell_same _ _ _ _ _ _ HB1.out, ?_⟩, ⟨HG.out.os, HG.out.tape, HG.out.output, ?_, ?_⟩⟩
  · have := ownsRow_same HO1.out (w' := w1.setCell ⟨P, 2, none⟩ (.slice ad1 (l.length + s.size) cp1)) (fun k cur hk hb => box_other _ (by omega))
    rw [strCells_eq] at this
    rw [List.length_append, List.map_append, Array.length_toList]
    exact this
  · have := HG.out.size
    simpa using this
  · intro k hk hkP hcur
    rw [box_other _ hkP]
    refine HG.out.block k hk fun e => ?_
    rcases HO.out.2 with ⟨h, _⟩ | ⟨g', cap', cur', h, h2, h3, _⟩
    · rw [h] at e; cases e
    · rw [h] at e
      have e2 : k = g' := Option.some.inj e
      subst e2
      rcases hcur with hlt | hcur
      · omega
      · exact hcur _ _ h3
theorem upd_set {P i : Nat} {w w1 : World} (h : Upd P w w1) (v : Value) : Upd P w (w1.setCell ⟨P, i, none⟩ v) :=
  h.trans ⟨rfl, rfl, rfl, by simp, fun k _ hp _ => box_other _ hp⟩
theorem max_cast (m d : Nat) : max (m : Int) ((d : Int) + 1) = ((max m (d + 1) : Nat) : Int) := by omega
set_option maxRecDepth 100000 in
set_option maxHeartbeats 400000 in
theorem enter_any {P : Nat} {w : World} {d m : Nat} {l : List B} (h : SW P w d m l) (hd : d ≤ 70368744177664) (_hm : m ≤ 70368744177664) :
    Calls Tryz.prog 100 #[.pointer (some ⟨P, 0, none⟩)] w fun e w' => e = .returned (.tuple #[]) ∧ SW P w' (d + 1) (max m (d + 1)) l ∧ Upd P w w' := by
  obtain ⟨v, hblk, hown⟩ := h
  have c0 := cell_blk (i := 0) hblk rfl
  have f0 := free_box (i := 0) hblk
  have hs1 := heap_setCell_same w P 0 _ _ (.int .i64 ((d : Int) + 1)) hblk
  have c1 := cell_blk (i := 1) hs1 rfl
  have c2 := cell_blk (i := 0) hs1 rfl
  have f1 := free_box (i := 1) hs1
  have HO := hid hown
  have HS := hid hs1
  clear hblk hown hs1
  go_enter Tryz.func100, Tryz.ntmps100
  go_wp2_with fail
  go_region
  rw [max_cast]
  go_wp2
  go_end0
  refine ⟨rfl, ⟨_, heap_setCell_same _ _ _ _ _ _ HS.out, ?_⟩, (upd_set (upd_set (Upd.refl _ _) _) _).drew⟩
  exact ownsRow_same HO.out fun k cur hk hb => (box_other _ (by omega)).trans (box_other _ (by omega))
set_option maxRecDepth 100000 in
set_option maxHeartbeats 400000 in
theorem leave_any {P : Nat} {w : World} {d m : Nat} {l : List B} (h : SW P w (d + 1) m l) (hd : d ≤ 70368744177664) :
    Calls Tryz.prog 101 #[.pointer (some ⟨P, 0, none⟩)] w fun e w' => e = .returned (.tuple #[]) ∧ SW P w' d m l ∧ Upd P w w' := by
  obtain ⟨v, hblk, hown⟩ := h
  have c0 := cell_blk (i := 0) hblk rfl
  have f0 := free_box (i := 0) hblk
  have HS := hid hblk
  have HO := hid hown
  have hd1 : ((d + 1 : Nat) : Int) - 1 = (d : Int) := by omega
  clear hblk hown
  go_enter Tryz.func101, Tryz.ntmps101
  go_wp2
  go_end0
  refine ⟨rfl, ⟨v, (heap_setCell_same _ _ _ _ _ _ HS.out).trans rfl, ?_⟩, upd_set (Upd.refl _ _) _⟩
  exact ownsRow_same HO.out fun k cur hk hb => box_other _ (by omega)
end Go.Proofs.YtfljcfdfgojdoaaGreatDoor.Sh

namespace Go.Proofs.YtfljcfdfgojdoaaGreatDoor.Sh
open Go.RowKit Go.Lib Go.Proofs.YtfljcfdfgojdoaaGreatDoor

theorem own_str {w : World} {base : Nat} {v : Value} {l : List B} (h : w.ownsRow base 5 1 v l.length (l.map bV)) : (convert 73 9 v).run Tryz.prog w = .ok (.string ⟨l.toArray⟩) w := by
  have hall := h
  rcases h.2 with ⟨rfl, h0⟩ | ⟨g, cap, cur, rfl, _⟩
  · obtain rfl : l = [] := List.eq_nil_of_length_eq_zero h0
    exact run_convert_bytes_string w _ _ _ none 0 0 Tryz.underlying73 Tryz.underlying5 Tryz.underlying9
  · refine run_convert_bytes_back w _ _ _ _ _ l Tryz.underlying73 Tryz.underlying5 Tryz.underlying9 fun j hj => ?_
    exact hall.cells rfl j _ (by rw [List.getElem?_map, List.getElem?_eq_getElem hj]; rfl)
/-- what is written, if that may be -/
def endM (l : List B) (m : Nat) : List B × Int := if 32 < m then ([], 8) else if 65536 < l.length then ([], 2) else (l, 0)
def EndPost (w : World) (x : List B × Int) (e : Ending) (w' : World) : Prop := e = .returned (.tuple #[.string ⟨x.1.toArray⟩, .int .i64 x.2]) ∧ w' = w
set_option maxRecDepth 100000 in
set_option maxHeartbeats 400000 in
theorem text_any {P : Nat} {w : World} {d m : Nat} {l : List B} (h : SW P w d m l) :
    Calls Tryz.prog 41 #[.pointer (some ⟨P, 0, none⟩)] w (EndPost w (endM l m)) := by
  obtain ⟨v, hblk, hown⟩ := h
  obtain ⟨ad, cp, rfl⟩ := own_shape hown
  have c1 := cell_blk (i := 1) hblk rfl
  have c2 := cell_blk (i := 2) hblk rfl
  have hstr := own_str hown
  have HX := hid (show endM l m = _ from rfl)
  clear hblk hown
  by_cases h1 : 32 < m
  · have h1' : (32 : Int) < (m : Int) := by omega
    have HE := hid (show endM l m = ([], 8) by unfold endM; rw [if_pos h1])
    clear h1
    go_enter Tryz.func41, Tryz.ntmps41
    go_wp2
    go_ret2
    rw [HE.out]; exact ⟨rfl, rfl⟩
  · have h1' : ¬ (32 : Int) < (m : Int) := by omega
    by_cases h2 : 65536 < l.length
    · have h2' : (65536 : Int) < (l.length : Int) := by omega
      have HE := hid (show endM l m = ([], 2) by unfold endM; rw [if_neg h1, if_pos h2])
      clear h1 h2
      go_enter Tryz.func41, Tryz.ntmps41
      go_wp2
      go_ret2
      rw [HE.out]; exact ⟨rfl, rfl⟩
    · have h2' : ¬ (65536 : Int) < (l.length : Int) := by omega
      have HE := hid (show endM l m = (l, 0) by unfold endM; rw [if_neg h1, if_neg h2])
      clear h1 h2
      go_enter Tryz.func41, Tryz.ntmps41
      go_wp2
      go_ret2
      rw [HE.out]; exact ⟨rfl, rfl⟩
set_option maxRecDepth 100000 in
set_option maxHeartbeats 400000 in
theorem level_any (k : Int) (x : List B) (s : Se) (v : Value) (mn mx : Int) (w : World) :
    Calls Tryz.prog 97 #[.agg (reC k x s v mn mx)] w fun e w' => e = .returned (.int .i64 (levK k)) ∧ Below w.heap.size w w' := by
  have HB := hid (((Below.refl w.heap.size w).alloc (Nat.le_refl _) (.cells (reC k x s v mn mx) 33)))
  have hb : (w.alloc (.cells (reC k x s v mn mx) 33)).heap[w.heap.size]? = some (.cells (reC k x s v mn mx) 33 (0, 0)) := heap_alloc_new _ _
  have c0 := cell_blk (i := 0) hb rfl
  clear hb
  unfold levK
  go_enter Tryz.func97, Tryz.ntmps97
  go_wp2
  all_goals go_ret
  all_goals simp_all
  all_goals exact HB.out
end Go.Proofs.YtfljcfdfgojdoaaGreatDoor.Sh
