/-
  What the writer of texts keeps in memory, and the contracts of its small methods: put, enter, leave, text.
  Small functions of package show: text, level, mapLevel.
  strconv.Itoa of a number below 100; how often.
-/
import Derived.Test.YtfljcfdfgojdoaaGreatDoorSb12
import Derived.Test.YtfljcfdfgojdoaaGreatDoorSb23
import Derived.Lib.AppendStr
import Derived.Laws.BytesString
import Derived.BigQuiet
import Derived.Laws.IdiomStrings
namespace Go.Proofs.YtfljcfdfgojdoaaGreatDoor.Sh
open Go.RowKit Go.Lib Go.Proofs.YtfljcfdfgojdoaaGreatDoor

abbrev bV (c : B) : Value := .int .u8 c.toNat
theorem bnext {w w1 w2 : World} (h : Below w.heap.size w w1) (k : Below w1.heap.size w1 w2) : Below w.heap.size w w2 := h.trans (k.mono h.size)
theorem alloc_old {w : World} {o : Obj} {k : Nat} (h : k < w.heap.size) : (w.alloc o).heap[k]? = w.heap[k]? := Below.heap_alloc _ _ _ h
theorem own_shape {w : World} {base e size n : Nat} {v : Value} {xs : List Value} (h : w.ownsRow base e size v n xs) : ∃ a cap, v = .slice a n cap := by
  rcases h.2 with ⟨rfl, rfl⟩ | ⟨g, cap, cur, rfl, _⟩
  · exact ⟨none, 0, rfl⟩
  · exact ⟨_, _, rfl⟩
theorem lt_of_heap {w : World} {P : Nat} {o : Obj} (h : w.heap[P]? = some o) : P < w.heap.size := (Array.getElem?_eq_some_iff.1 h).1
theorem cell_blk {w : World} {P i : Nat} {cs : Array Value} {T : TypeId} {v : Value} (h : w.heap[P]? = some (.cells cs T (0, 0))) (hv : cs[i]? = some v) : w.cell? ⟨P, i, none⟩ = some v := by simp [World.cell?, h, hv]
theorem free_box {w : World} {P i : Nat} {cs : Array Value} {T : TypeId} (h : w.heap[P]? = some (.cells cs T (0, 0))) : w.frozen? ⟨P, i, none⟩ = false := by simp [World.frozen?, h]
theorem box_other {w : World} {P k i : Nat} (v' : Value) (h : k ≠ P) : (w.setCell ⟨P, i, none⟩ v').heap[k]? = w.heap[k]? := heap_setCell_other _ _ _ _ h
theorem ownsRow_same {w w' : World} {base e size n : Nat} {v : Value} {xs : List Value} (h : w.ownsRow base e size v n xs) (hk : ∀ k cur, w.heap[k]? = some (.cells cur e (0, 0)) → base ≤ k → w'.heap[k]? = w.heap[k]?) : w'.ownsRow base e size v n xs := by
  refine ⟨h.1, ?_⟩
  rcases h.2 with hn | ⟨g, cap, cur, hv, hb, hg, rest⟩
  · exact .inl hn
  · exact .inr ⟨g, cap, cur, hv, hb, (hk g cur hg hb).trans hg, rest⟩
theorem strCells_eq (s : ByteArray) : strCells s = s.data.toList.map bV := rfl

/-- the writer in block P: how many brackets stand open, how many did at most, and what was written -/
def SW (P : Nat) (w : World) (d m : Nat) (l : List B) : Prop :=
  ∃ v, w.heap[P]? = some (.cells #[.int .i64 d, .int .i64 m, v] 75 (0, 0)) ∧ w.ownsRow (P + 1) 5 1 v l.length (l.map bV)
/-- what a writer's method leaves of the world: the blocks ahead of the writer, and whatever holds no bytes -/
structure Upd (P : Nat) (w w' : World) : Prop where
  os : w'.os = w.os
  tape : w'.tape = w.tape
  output : w'.output = w.output
  size : w.heap.size ≤ w'.heap.size
  block : ∀ k, k < w.heap.size → k ≠ P → (k < P ∨ ∀ cur fr, w.heap[k]? ≠ some (.cells cur 5 fr)) → w'.heap[k]? = w.heap[k]?
theorem Upd.refl (P : Nat) (w : World) : Upd P w w := ⟨rfl, rfl, rfl, Nat.le_refl _, fun _ _ _ _ => rfl⟩
theorem Upd.trans {P : Nat} {w w1 w2 : World} (h : Upd P w w1) (k : Upd P w1 w2) : Upd P w w2 :=
  ⟨k.os.trans h.os, k.tape.trans h.tape, k.output.trans h.output, Nat.le_trans h.size k.size, fun i hi hp hc => by
    have h1 := h.block i hi hp hc
    exact (k.block i (Nat.lt_of_lt_of_le hi h.size) hp (hc.imp_right fun hc cur fr => by rw [h1]; exact hc cur fr)).trans h1⟩
theorem Upd.alloc {P : Nat} {w w1 : World} (h : Upd P w w1) (o : Obj) : Upd P w (w1.alloc o) :=
  h.trans ⟨rfl, rfl, rfl, by simp, fun _ hi _ _ => alloc_old hi⟩
theorem Upd.drew {P : Nat} {w w1 : World} (h : Upd P w w1) : Upd P w w1.drew := h.trans ⟨rfl, rfl, rfl, Nat.le_refl _, fun _ _ _ _ => rfl⟩
theorem Upd.below {P : Nat} {w w1 w2 : World} (h : Upd P w w1) (k : Below w1.heap.size w1 w2) : Upd P w w2 :=
  h.trans ⟨k.os, k.tape, k.output, k.size, fun i hi _ _ => k.block i hi⟩
theorem Upd.row {P : Nat} {w w1 : World} (h : Upd P w w1) {k : Nat} {cur : Array Value} {T : TypeId} {fr : Nat × Nat} (hk : w.heap[k]? = some (.cells cur T fr)) (hT : T ≠ 5) (hp : k ≠ P) : w1.heap[k]? = some (.cells cur T fr) :=
  (h.block k (lt_of_heap hk) hp (.inr fun cur' fr' e => by rw [hk] at e; cases e; exact hT rfl)).trans hk
theorem Upd.low {P : Nat} {w w1 : World} (h : Upd P w w1) (hP : P < w.heap.size) : Below P w w1 :=
  ⟨h.os, h.tape, h.output, h.size, fun k hk => h.block k (by omega) (by omega) (.inl hk)⟩
theorem SW.lt {P : Nat} {w : World} {d m : Nat} {l : List B} (h : SW P w d m l) : P < w.heap.size := by
  obtain ⟨v, h1, _⟩ := h; exact lt_of_heap h1
theorem SW.alloc {P : Nat} {w : World} {d m : Nat} {l : List B} (h : SW P w d m l) (o : Obj) : SW P (w.alloc o) d m l := by
  obtain ⟨v, h1, h2⟩ := h
  exact ⟨v, (alloc_old (lt_of_heap h1)).trans h1, h2.alloc o⟩
theorem SW.below {P : Nat} {w w1 : World} {d m : Nat} {l : List B} (h : SW P w d m l) (k : Below w.heap.size w w1) : SW P w1 d m l := by
  obtain ⟨v, h1, h2⟩ := h
  exact ⟨v, (k.block _ (lt_of_heap h1)).trans h1, ownsRow_same h2 fun g cur hg _ => k.block g (lt_of_heap hg)⟩
theorem infoB : (Tryz.prog.info? 5).map (fun i => (i.zero, i.size, i.bytes)) = some (some (.int .u8 0), 1, 1) := by kernel_rfl

set_option maxRecDepth 100000 in
set_option maxHeartbeats 400000 in
theorem put_any {P : Nat} {w : World} {d m : Nat} {l : List B} (s : ByteArray) (h : SW P w d m l) (hn : l.length + s.size ≤ 70368744177664) :
    Calls Tryz.prog 86 #[.pointer (some ⟨P, 0, none⟩), .string s] w fun e w' => e = .returned (.tuple #[]) ∧ SW P w' d m (l ++ s.data.toList) ∧ Upd P w w' := by
  obtain ⟨v, hblk, hown⟩ := h
  obtain ⟨ad, cp, rfl⟩ := own_shape hown
  have hc := cell_blk (i := 2) hblk rfl
  have hf := free_box (i := 2) hblk
  have hP := lt_of_heap hblk
  have HB := hid hblk
  have HO := hid hown
  clear hblk hown
  obtain ⟨i0, hi, hz0, hz1, hz2⟩ := info_parts infoB
  have HI := hid hi
  have HZ := hid (And.intro hz0 (And.intro hz1 hz2))
  clear hi hz0 hz1 hz2
  go_enter Tryz.func86, Tryz.ntmps86
  go_wp2_with (at_builtin; (refine wpList_append_own_string (hgd := rfl) (sl := .tmp 8) (x := .tmp 9) (t := 73) (u := 9) (ho := rfl) (base := P + 1) (e := 5) (i := i0) (ht := Tryz.underlying73) (hu := Tryz.underlying9) (hi := HI.out) (hz := HZ.out.1) (hsize := HZ.out.2.1) (hby := HZ.out.2.2) (v := .slice ad l.length cp) (n := l.length) (xs := l.map bV) (hs := ?a1) (hown := HO.out) (s := s) (hx := ?a2) (h63 := ?a3) (hbytes := ?a4) (hbase := ?a5) (h := ?a6)))
  case a1 => rfl
  case a2 => rfl
  case a3 => unfold maxLen; omega
  case a4 => omega
  case a5 => omega
  intro v' w1 hown' hgrow _
  have hne : ∀ k, k = P → some k ≠ (Value.slice ad l.length cp).ownBlock := fun k hk e => by have := HO.out.lt k e.symm; omega
  have hb1 := (hgrow.block P hP (hne P rfl)).trans HB.out
  have hc1 := cell_blk (i := 2) hb1 rfl
  have hf1 := free_box (i := 2) hb1
  obtain ⟨ad1, cp1, rfl⟩ := own_shape hown'
  have HO1 := hid hown'
  have HG := hid hgrow
  have HB1 := hid hb1
  have HN := hid hne
  clear hown' hgrow hb1 hne
  go_wp2
  go_end0
  refine ⟨rfl, ⟨_, heap_setCell_same _ _ _ _ _ _ HB1.out, ?_⟩, ⟨HG.out.os, HG.out.tape, HG.out.output, ?_, ?_⟩⟩
  · have := ownsRow_same HO1.out (w' := w1.setCell ⟨P, 2, none⟩ (.slice ad1 (l.length + s.size) cp1)) (fun k cur hk hb => box_other _ (by omega))
    rw [strCells_eq] at this
    rw [List.length_append, List.map_append, Array.length_toList]
    exact this
  · have := HG.out.size
    simpa using this
  · intro k hk hkP hcur
    rw [box_other _ hkP]
    refine HG.out.block k hk fun e => ?_
    rcases HO.out.2 with ⟨h, _⟩ | ⟨g', cap', cur', h, h2, h3, _⟩
    · rw [h] at e; cases e
    · rw [h] at e
      have e2 : k = g' := Option.some.inj e
      subst e2
      rcases hcur with hlt | hcur
      · omega
      · exact hcur _ _ h3
theorem upd_set {P i : Nat} {w w1 : World} (h : Upd P w w1) (v : Value) : Upd P w (w1.setCell ⟨P, i, none⟩ v) :=
  h.trans ⟨rfl, rfl, rfl, by simp, fun k _ hp _ => box_other _ hp⟩
theorem max_cast (m d : Nat) : max (m : Int) ((d : Int) + 1) = ((max m (d + 1) : Nat) : Int) := by omega
set_option maxRecDepth 100000 in
set_option maxHeartbeats 400000 in
theorem enter_any {P : Nat} {w : World} {d m : Nat} {l : List B} (h : SW P w d m l) (hd : d ≤ 70368744177664) (_hm : m ≤ 70368744177664) :
    Calls Tryz.prog 100 #[.pointer (some ⟨P, 0, none⟩)] w fun e w' => e = .returned (.tuple #[]) ∧ SW P w' (d + 1) (max m (d + 1)) l ∧ Upd P w w' := by
  obtain ⟨v, hblk, hown⟩ := h
  have c0 := cell_blk (i := 0) hblk rfl
  have f0 := free_box (i := 0) hblk
  have hs1 := heap_setCell_same w P 0 _ _ (.int .i64 ((d : Int) + 1)) hblk
  have c1 := cell_blk (i := 1) hs1 rfl
  have c2 := cell_blk (i := 0) hs1 rfl
  have f1 := free_box (i := 1) hs1
  have HO := hid hown
  have HS := hid hs1
  clear hblk hown hs1
  go_enter Tryz.func100, Tryz.ntmps100
  go_wp2_with fail
  go_region
  rw [max_cast]
  go_wp2
  go_end0
  refine ⟨rfl, ⟨_, heap_setCell_same _ _ _ _ _ _ HS.out, ?_⟩, (upd_set (upd_set (Upd.refl _ _) _) _).drew⟩
  exact ownsRow_same HO.out fun k cur hk hb => (box_other _ (by omega)).trans (box_other _ (by omega))
set_option maxRecDepth 100000 in
set_option maxHeartbeats 400000 in
theorem leave_any {P : Nat} {w : World} {d m : Nat} {l : List B} (h : SW P w (d + 1) m l) (hd : d ≤ 70368744177664) :
    Calls Tryz.prog 101 #[.pointer (some ⟨P, 0, none⟩)] w fun e w' => e = .returned (.tuple #[]) ∧ SW P w' d m l ∧ Upd P w w' := by
  obtain ⟨v, hblk, hown⟩ := h
  have c0 := cell_blk (i := 0) hblk rfl
  have f0 := free_box (i := 0) hblk
  have HS := hid hblk
  have HO := hid hown
  have hd1 : ((d + 1 : Nat) : Int) - 1 = (d : Int) := by omega
  clear hblk hown
  go_enter Tryz.func101, Tryz.ntmps101
  go_wp2
  go_end0
  refine ⟨rfl, ⟨v, (heap_setCell_same _ _ _ _ _ _ HS.out).trans rfl, ?_⟩, upd_set (Upd.refl _ _) _⟩
  exact ownsRow_same HO.out fun k cur hk hb => box_other _ (by omega)
end Go.Proofs.YtfljcfdfgojdoaaGreatDoor.Sh

namespace Go.Proofs.YtfljcfdfgojdoaaGreatDoor.Sh
open Go.RowKit Go.Lib Go.Proofs.YtfljcfdfgojdoaaGreatDoor

theorem own_str {w : World} {base : Nat} {v : Value} {l : List B} (h : w.ownsRow base 5 1 v l.length (l.map bV)) : (convert 73 9 v).run Tryz.prog w = .ok (.string ⟨l.toArray⟩) w := by
  have hall := h
  rcases h.2 with ⟨rfl, h0⟩ | ⟨g, cap, cur, rfl, _⟩
  · obtain rfl : l = [] := List.eq_nil_of_length_eq_zero h0
    exact run_convert_bytes_string w _ _ _ none 0 0 Tryz.underlying73 Tryz.underlying5 Tryz.underlying9
  · refine run_convert_bytes_back w _ _ _ _ _ l Tryz.underlying73 Tryz.underlying5 Tryz.underlying9 fun j hj => ?_
    exact hall.cells rfl j _ (by rw [List.getElem?_map, List.getElem?_eq_getElem hj]; rfl)
/-- what is written, if that may be -/
def endM (l : List B) (m : Nat) : List B × Int := if 32 < m then ([], 8) else if 65536 < l.length then ([], 2) else (l, 0)
def EndPost (w : World) (x : List B × Int) (e : Ending) (w' : World) : Prop := e = .returned (.tuple #[.string ⟨x.1.toArray⟩, .int .i64 x.2]) ∧ w' = w
set_option maxRecDepth 100000 in
set_option maxHeartbeats 400000 in
theorem text_any {P : Nat} {w : World} {d m : Nat} {l : List B} (h : SW P w d m l) :
    Calls Tryz.prog 41 #[.pointer (some ⟨P, 0, none⟩)] w (EndPost w (endM l m)) := by
  obtain ⟨v, hblk, hown⟩ := h
  obtain ⟨ad, cp, rfl⟩ := own_shape hown
  have c1 := cell_blk (i := 1) hblk rfl
  have c2 := cell_blk (i := 2) hblk rfl
  have hstr := own_str hown
  have HX := hid (show endM l m = _ from rfl)
  clear hblk hown
  by_cases h1 : 32 < m
  · have h1' : (32 : Int) < (m : Int) := by omega
    have HE := hid (show endM l m = ([], 8) by unfold endM; rw [if_pos h1])
    clear h1
    go_enter Tryz.func41, Tryz.ntmps41
    go_wp2
    go_ret2
    rw [HE.out]; exact ⟨rfl, rfl⟩
  · have h1' : ¬ (32 : Int) < (m : Int) := by omega
    by_cases h2 : 65536 < l.length
    · have h2' : (65536 : Int) < (l.length : Int) := by omega
      have HE := hid (show endM l m = ([], 2) by unfold endM; rw [if_neg h1, if_pos h2])
      clear h1 h2
      go_enter Tryz.func41, Tryz.ntmps41
      go_wp2
      go_ret2
      rw [HE.out]; exact ⟨rfl, rfl⟩
    · have h2' : ¬ (65536 : Int) < (l.length : Int) := by omega
      have HE := hid (show endM l m = (l, 0) by unfold endM; rw [if_neg h1, if_neg h2])
      clear h1 h2
      go_enter Tryz.func41, Tryz.ntmps41
      go_wp2
      go_ret2
      rw [HE.out]; exact ⟨rfl, rfl⟩
set_option maxRecDepth 100000 in
set_option maxHeartbeats 400000 in
theorem level_any (k : Int) (x : List B) (s : Se) (v : Value) (mn mx : Int) (w : World) :
    Calls Tryz.prog 97 #[.agg (reC k x s v mn mx)] w fun e w' => e = .returned (.int .i64 (levK k)) ∧ Below w.heap.size w w' := by
  have HB := hid (((Below.refl w.heap.size w).alloc (Nat.le_refl _) (.cells (reC k x s v mn mx) 33)))
  have hb : (w.alloc (.cells (reC k x s v mn mx) 33)).heap[w.heap.size]? = some (.cells (reC k x s v mn mx) 33 (0, 0)) := heap_alloc_new _ _
  have c0 := cell_blk (i := 0) hb rfl
  clear hb
  unfold levK
  go_enter Tryz.func97, Tryz.ntmps97
  go_wp2
  all_goals go_ret
  all_goals simp_all
  all_goals exact HB.out
end Go.Proofs.YtfljcfdfgojdoaaGreatDoor.Sh

namespace Go.Proofs.YtfljcfdfgojdoaaGreatDoor.Sh
open Go.RowKit Go.Lib Go.Proofs.YtfljcfdfgojdoaaGreatDoor

abbrev digLo : ByteArray := ⟨#[48, 49, 50, 51, 52, 53, 54, 55, 56, 57, 97, 98, 99, 100, 101, 102, 103, 104, 105, 106, 107, 108, 109, 110, 111, 112, 113, 114, 115, 116, 117, 118, 119, 120, 121, 122]⟩
abbrev digHi : ByteArray := ⟨#[48, 48, 48, 49, 48, 50, 48, 51, 48, 52, 48, 53, 48, 54, 48, 55, 48, 56, 48, 57, 49, 48, 49, 49, 49, 50, 49, 51, 49, 52, 49, 53, 49, 54, 49, 55, 49, 56, 49, 57, 50, 48, 50, 49, 50, 50, 50, 51, 50, 52, 50, 53, 50, 54, 50, 55, 50, 56, 50, 57, 51, 48, 51, 49, 51, 50, 51, 51, 51, 52, 51, 53, 51, 54, 51, 55, 51, 56, 51, 57, 52, 48, 52, 49, 52, 50, 52, 51, 52, 52, 52, 53, 52, 54, 52, 55, 52, 56, 52, 57, 53, 48, 53, 49, 53, 50, 53, 51, 53, 52, 53, 53, 53, 54, 53, 55, 53, 56, 53, 57, 54, 48, 54, 49, 54, 50, 54, 51, 54, 52, 54, 53, 54, 54, 54, 55, 54, 56, 54, 57, 55, 48, 55, 49, 55, 50, 55, 51, 55, 52, 55, 53, 55, 54, 55, 55, 55, 56, 55, 57, 56, 48, 56, 49, 56, 50, 56, 51, 56, 52, 56, 53, 56, 54, 56, 55, 56, 56, 56, 57, 57, 48, 57, 49, 57, 50, 57, 51, 57, 52, 57, 53, 57, 54, 57, 55, 57, 56, 57, 57]⟩
set_option maxRecDepth 1000000 in
theorem small_lo : ∀ n : Fin 10, digLo.extract n.1 (n.1 + 1) = ⟨(decW n.1).toArray⟩ := by decide
set_option maxRecDepth 1000000 in
theorem small_hi : ∀ n : Fin 100, 10 ≤ n.1 → digHi.extract (n.1 * 2) (n.1 * 2 + 2) = ⟨(decW n.1).toArray⟩ := by decide
set_option maxRecDepth 100000 in
set_option maxHeartbeats 400000 in
theorem small_any (n : Nat) (hn : n < 100) (w : World) :
    Calls Tryz.prog 219 #[.int .i64 n] w fun e w' => e = .returned (.string ⟨(decW n).toArray⟩) ∧ w' = w := by
  by_cases h : n < 10
  · have h' : (n : Int) < 10 := by omega
    have HE := hid (small_lo ⟨n, h⟩)
    go_enter Tryz.func219, Tryz.ntmps219
    go_wp2
    go_ret
    exact ⟨congrArg (fun s => Ending.returned (.string s)) HE.out, rfl⟩
  · have h' : ¬ (n : Int) < 10 := by omega
    have HE := hid (small_hi ⟨n, hn⟩ (by show 10 ≤ n; omega))
    go_enter Tryz.func219, Tryz.ntmps219
    go_wp2
    go_ret
    exact ⟨congrArg (fun s => Ending.returned (.string s)) HE.out, rfl⟩
set_option maxRecDepth 100000 in
theorem formatInt_any (n : Nat) (hn : n < 100) (w : World) :
    Calls Tryz.prog 197 #[.int .i64 n, .int .i64 10] w fun e w' => e = .returned (.string ⟨(decW n).toArray⟩) ∧ w' = w := by
  have h0 : (0 : Int) ≤ (n : Int) := by omega
  have h1 : (n : Int) < 100 := by omega
  go_enter Tryz.func197, Tryz.ntmps197
  go_wp2_with (go_at_call 219; refine (small_any n hn _).mono ?_; rintro e w' ⟨rfl, rfl⟩)
  go_ret
  exact ⟨rfl, rfl⟩
set_option maxRecDepth 100000 in
theorem itoaIn_any (n : Nat) (hn : n < 100) (w : World) :
    Calls Tryz.prog 172 #[.int .i64 n] w fun e w' => e = .returned (.string ⟨(decW n).toArray⟩) ∧ w' = w := by
  have h0 : (0 : Int) ≤ (n : Int) := by omega
  have h1 : (n : Int) < 100 := by omega
  go_enter Tryz.func172, Tryz.ntmps172
  go_wp2_with (go_at_call 197; refine (formatInt_any n hn _).mono ?_; rintro e w' ⟨rfl, rfl⟩)
  go_ret
  exact ⟨rfl, rfl⟩
set_option maxRecDepth 100000 in
theorem itoa_any (n : Nat) (hn : n < 100) (w : World) :
    Calls Tryz.prog 141 #[.int .i64 n] w fun e w' => e = .returned (.string ⟨(decW n).toArray⟩) ∧ w' = w := by
  have h0 : (0 : Int) ≤ (n : Int) := by omega
  have h1 : (n : Int) < 100 := by omega
  go_enter Tryz.func141, Tryz.ntmps141
  go_wp2_with (go_at_call 172; refine (itoaIn_any n hn _).mono ?_; rintro e w' ⟨rfl, rfl⟩)
  go_ret
  exact ⟨rfl, rfl⟩
/-- the same, of a number as it stands in memory -/
theorem itoa_at (v : Int) (h0 : 0 ≤ v) (h1 : v < 100) (w : World) :
    Calls Tryz.prog 141 #[.int .i64 v] w fun e w' => e = .returned (.string ⟨(decW v).toArray⟩) ∧ w' = w := by
  obtain ⟨n, rfl⟩ : ∃ n : Nat, v = n := ⟨v.toNat, by omega⟩
  exact itoa_any n (by omega) w
theorem decW_len (v : Int) : (decW v).length ≤ 2 := by unfold decW; split <;> simp
/-- the same; the text is short, and what it is stays hidden -/
def ItoaPost (v : Int) (w : World) (e : Ending) (w' : World) : Prop := ∃ s : ByteArray, e = .returned (.string s) ∧ Hid (s = ⟨(decW v).toArray⟩) ∧ s.size ≤ 2 ∧ w' = w
theorem itoa_str (v : Int) (h0 : 0 ≤ v) (h1 : v < 100) (w : World) : Calls Tryz.prog 141 #[.int .i64 v] w (ItoaPost v w) :=
  (itoa_at v h0 h1 w).mono fun _e _w' h => ⟨_, h.1, rfl, decW_len v, h.2⟩
theorem cat_str (a b : List B) : (⟨a.toArray⟩ : ByteArray) ++ ⟨b.toArray⟩ = ⟨(a ++ b).toArray⟩ := by
  apply ByteArray.ext
  rw [ByteArray.data_append]
  simp
/-- is it a right pair of numbers? -/
def oftOk (lo hi : Int) : Prop := (lo = 0 ∧ hi = -1) ∨ (lo = 1 ∧ hi = -1) ∨ (0 ≤ lo ∧ lo ≤ hi ∧ hi ≤ 64)
set_option maxRecDepth 100000 in
set_option maxHeartbeats 400000 in
theorem often_any (lo hi : Int) (h : oftOk lo hi) (w : World) :
    Calls Tryz.prog 102 #[.int .i64 lo, .int .i64 hi] w fun e w' => e = .returned (.string ⟨(oftenW lo hi).toArray⟩) ∧ w' = w := by
  rcases h with ⟨rfl, rfl⟩ | ⟨rfl, rfl⟩ | ⟨h0, h1, h2⟩
  · go_enter Tryz.func102, Tryz.ntmps102
    go_wp2
    go_ret
    exact ⟨rfl, rfl⟩
  · go_enter Tryz.func102, Tryz.ntmps102
    go_wp2
    go_ret
    exact ⟨rfl, rfl⟩
  · have e1 : (hi == -1) = false := by simp; omega
    by_cases hb : lo = 0 ∧ hi = 1
    · obtain ⟨rfl, rfl⟩ := hb
      go_enter Tryz.func102, Tryz.ntmps102
      go_wp2
      go_ret
      exact ⟨rfl, rfl⟩
    · have hW : Hid (oftenW lo hi = if lo = hi then 123 :: (decW lo ++ [125]) else 123 :: (decW lo ++ 44 :: (decW hi ++ [125]))) := by
        show _ = _
        unfold oftenW
        rw [if_neg (by omega), if_neg (by omega), if_neg hb]
      have e2 : ((lo == 0) && (hi == 1)) = false := by
        by_cases h : lo = 0
        · have : hi ≠ 1 := fun e => hb ⟨h, e⟩
          simp [this]
        · simp [h]
      have n1 : ¬ hi = -1 := by omega
      have HB := hid hb
      clear hb e1 e2
      have h65 : hi < 100 := by omega
      have h66 : lo < 100 := by omega
      have h67 : 0 ≤ hi := by omega
      by_cases he : lo = hi
      · subst he
        have HR := hid ((hW.out).trans (if_pos rfl))
        clear hW h1 h2
        rcases (by omega : lo = 0 ∨ lo = 1 ∨ 2 ≤ lo) with rfl | rfl | h3
        · go_enter Tryz.func102, Tryz.ntmps102
          go_wp2_with (go_at_call 141; refine (itoa_str 0 (by decide) (by decide) _).mono ?_; rintro e w' ⟨sA, rfl, hsA, hlA, rfl⟩)
          go_ret
          rw [HR.out]
          refine ⟨congrArg (fun s => Ending.returned (.string s)) ?_, rfl⟩
          rw [show sA = _ from hsA]
          apply ByteArray.ext
          simp
        · go_enter Tryz.func102, Tryz.ntmps102
          go_wp2_with (go_at_call 141; refine (itoa_str 1 (by decide) (by decide) _).mono ?_; rintro e w' ⟨sA, rfl, hsA, hlA, rfl⟩)
          go_ret
          rw [HR.out]
          refine ⟨congrArg (fun s => Ending.returned (.string s)) ?_, rfl⟩
          rw [show sA = _ from hsA]
          apply ByteArray.ext
          simp
        · have h4 : ¬ lo = 0 := by omega
          have h5 : ¬ lo = 1 := by omega
          clear h3
          go_enter Tryz.func102, Tryz.ntmps102
          go_wp2_with (go_at_call 141; refine (itoa_str lo h0 h66 _).mono ?_; rintro e w' ⟨sA, rfl, hsA, hlA, rfl⟩)
          go_ret
          rw [HR.out]
          refine ⟨congrArg (fun s => Ending.returned (.string s)) ?_, rfl⟩
          rw [show sA = _ from hsA]
          apply ByteArray.ext
          simp
      · have HR := hid ((hW.out).trans (if_neg he))
        clear hW h1 h2
        rcases (by omega : lo = 0 ∨ lo = 1 ∨ 2 ≤ lo) with rfl | rfl | h3
        · have h4 : ¬ hi = 1 := fun e => HB.out ⟨rfl, e⟩
          have h5 : ¬ (0 = hi) := he
          go_enter Tryz.func102, Tryz.ntmps102
          go_wp2_with (first | (go_at_call 141; refine (itoa_str 0 (by decide) (by decide) _).mono ?_; rintro e w' ⟨sA, rfl, hsA, hlA, rfl⟩) | (go_at_call 141; refine (itoa_str hi h67 h65 _).mono ?_; rintro e w' ⟨sB, rfl, hsB, hlB, rfl⟩))
          go_ret
          rw [HR.out]
          refine ⟨congrArg (fun s => Ending.returned (.string s)) ?_, rfl⟩
          rw [show sA = _ from hsA, show sB = _ from hsB]
          apply ByteArray.ext
          simp
        · have h5 : ¬ (1 = hi) := he
          go_enter Tryz.func102, Tryz.ntmps102
          go_wp2_with (first | (go_at_call 141; refine (itoa_str 1 (by decide) (by decide) _).mono ?_; rintro e w' ⟨sA, rfl, hsA, hlA, rfl⟩) | (go_at_call 141; refine (itoa_str hi h67 h65 _).mono ?_; rintro e w' ⟨sB, rfl, hsB, hlB, rfl⟩))
          go_ret
          rw [HR.out]
          refine ⟨congrArg (fun s => Ending.returned (.string s)) ?_, rfl⟩
          rw [show sA = _ from hsA, show sB = _ from hsB]
          apply ByteArray.ext
          simp
        · have h4 : ¬ lo = 0 := by omega
          have h5 : ¬ lo = 1 := by omega
          clear h3
          go_enter Tryz.func102, Tryz.ntmps102
          go_wp2_with (first | (go_at_call 141; refine (itoa_str lo h0 h66 _).mono ?_; rintro e w' ⟨sA, rfl, hsA, hlA, rfl⟩) | (go_at_call 141; refine (itoa_str hi h67 h65 _).mono ?_; rintro e w' ⟨sB, rfl, hsB, hlB, rfl⟩))
          go_ret
          rw [HR.out]
          refine ⟨congrArg (fun s => Ending.returned (.string s)) ?_, rfl⟩
          rw [show sA = _ from hsA, show sB = _ from hsB]
          apply ByteArray.ext
          simp
end Go.Proofs.YtfljcfdfgojdoaaGreatDoor.Sh
