/-
  The parser in memory; the contracts of its smallest functions, of names, of leaves and of a slice of expressions.
-/
import Derived.Test.YtfljcfdfgojdoaaGreatDoorFa04
import Derived.Deep.MidRow
namespace Go.Proofs.YtfljcfdfgojdoaaGreatDoor
open Go.RowKit Go.Lib

/-- the parser in memory: its own block, the tokens' block -/
structure Pz (T : List Tok) (bp bt cap : Nat) (a dep : Nat) (w : World) : Prop where
  blk : w.heap[bp]? = some (.cells #[.slice (some ⟨bt, 0, none⟩) T.length cap, .int .i64 a, .int .i64 dep] 141 (0, 0))
  toks : ∀ i t, T[i]? = some t → w.rangeAt bt (i * 8) t.cells.toList
  ne : bp ≠ bt
  inb : bt < w.heap.size
  lt : a < T.length
  fin : ∀ i t, T[i]? = some t → t.kind ≠ 0 → i + 1 < T.length
  few : T.length ≤ 100000
  dle : dep ≤ 32
theorem Pz.bp_lt {T : List Tok} {bp bt cap a dep : Nat} {w : World} (h : Pz T bp bt cap a dep w) : bp < w.heap.size := (Array.getElem?_eq_some_iff.1 h.blk).1
theorem Pz.below {T : List Tok} {bp bt cap a dep : Nat} {w w1 : World} (h : Pz T bp bt cap a dep w) (hb : Below w.heap.size w w1) : Pz T bp bt cap a dep w1 where
  blk := (hb.block bp h.bp_lt).trans h.blk
  toks i t ht j v hv := (hb.cell (p := ⟨bt, i * 8 + j, none⟩) h.inb).trans (h.toks i t ht j v hv)
  ne := h.ne
  inb := Nat.lt_of_lt_of_le h.inb hb.size
  lt := h.lt
  fin := h.fin
  few := h.few
  dle := h.dle
theorem tokAt_some {T : List Tok} {a : Nat} (h : a < T.length) : T[a]? = some (tokAt T a) := by
  unfold tokAt; simp [List.getD, List.getElem?_eq_getElem h]

set_option maxHeartbeats 1000000 in
theorem tok_any {T : List Tok} {bp bt cap a dep : Nat} {w : World} (h : Pz T bp bt cap a dep w) :
    Calls Tryz.prog 106 #[.pointer (some ⟨bp, 0, none⟩)] w fun e w' => e = .returned (.agg (tokAt T a).cells) ∧ Below w.heap.size w w' := by
  have c0 : w.cell? ⟨bp, 0, none⟩ = some (.slice (some ⟨bt, 0, none⟩) T.length cap) := cell_of_row _ _ _ _ _ _ h.blk
  have c1 : w.cell? ⟨bp, 1, none⟩ = some (.int .i64 a) := cell_of_row _ _ _ _ _ _ h.blk
  have ht := h.toks a _ (tokAt_some h.lt)
  have hlt := h.lt
  have hfew := h.few
  have hbp := h.bp_lt
  have hbt := h.inb
  clear h
  generalize tokAt T a = t at *
  have k0 : w.cell? ⟨bt, a * 8, none⟩ = some (.int .i64 t.kind) := ht 0 _ rfl
  have k1 := ht 1 _ rfl
  have k2 := ht 2 _ rfl
  have k3 := ht 3 _ rfl
  have k4 := ht 4 _ rfl
  have k5 := ht 5 _ rfl
  have k6 := ht 6 _ rfl
  have k7 := ht 7 _ rfl
  clear ht
  have hlt' : (a : Int) < (T.length : Int) := by omega
  go_enter Tryz.func106, Tryz.ntmps106
  go_wp2
  go_region
  go_wp2
  exact bodyPost_ret (v := .agg t.cells) (by simp [results, Tryz.results106, go_sem, Tok.cells]) rfl ⟨rfl, (((Below.refl _ _).alloc (Nat.le_refl _) _).drew)⟩

theorem field1 (k : Int) (x : ByteArray) (a b c d n p : Int) (w : World) : (Instr.field 139 (.agg #[.int .i64 k, .string x, .int .u64 a, .int .u64 b, .int .u64 c, .int .u64 d, .int .i64 n, .int .i64 p]) 1).run Tryz.prog w = .ok (.string x) w := by kernel_rfl
theorem field4 (k : Int) (x : ByteArray) (a b c d n p : Int) (w : World) : (Instr.field 139 (.agg #[.int .i64 k, .string x, .int .u64 a, .int .u64 b, .int .u64 c, .int .u64 d, .int .i64 n, .int .i64 p]) 4).run Tryz.prog w = .ok (.int .i64 p) w := by kernel_rfl
/-- the panic by which a parser ends -/
abbrev faultE (p x : Int) : Ending := .panicked [{ v := .iface 143 (.agg #[.int .i64 p, .int .i64 x]), recovered := false }]

set_option maxRecDepth 100000 in
set_option maxHeartbeats 1000000 in
theorem fail_any {T : List Tok} {bp bt cap a dep : Nat} {w : World} (h : Pz T bp bt cap a dep w) (x : Int) :
    Calls Tryz.prog 107 #[.pointer (some ⟨bp, 0, none⟩), .int .i64 x] w fun e w' => e = faultE (tokAt T a).pos x ∧ Below w.heap.size w w' := by
  have q4 := field4
  go_enter Tryz.func107, Tryz.ntmps107
  go_wp2_with (go_at_call 106; refine (tok_any h).mono ?_; rintro e w1 ⟨rfl, hb⟩; simp only [Tok.cells])
  exact ⟨rfl, rfl, hb⟩

theorem isB_no {t : Tok} {s : List B} (h : (t.kind == 4) = false) : isB t s = false := by simp [isB, h]
theorem isB_yes {t : Tok} {s : ByteArray} (h : (t.kind == 4) = true) : isB t s.data.toList = (t.text == s.toList) := by simp [isB, h, toList_data]

set_option maxRecDepth 100000 in
set_option maxHeartbeats 1000000 in
theorem is_any {T : List Tok} {bp bt cap a dep : Nat} {w : World} (h : Pz T bp bt cap a dep w) (s : ByteArray) :
    Calls Tryz.prog 150 #[.pointer (some ⟨bp, 0, none⟩), .string s] w fun e w' => e = .returned (.bool (isB (tokAt T a) s.data.toList)) ∧ Below w.heap.size w w' := by
  cases hk : ((tokAt T a).kind == 4)
  · have hi := hid (isB_no (s := s.data.toList) hk)
    go_enter Tryz.func150, Tryz.ntmps150
    go_wp2_with (go_at_call 106; refine (tok_any h).mono ?_; rintro e w1 ⟨rfl, hb⟩; simp only [Tok.cells])
    go_ret
    exact ⟨bool_eq hi.out.symm, hb.alloc hb.size _⟩
  · have hi := hid (isB_yes (s := s) hk)
    go_enter Tryz.func150, Tryz.ntmps150
    go_wp2_with (go_at_call 106; refine (tok_any h).mono ?_; rintro e w1 ⟨rfl, hb⟩; simp only [Tok.cells])
    go_ret
    exact ⟨bool_eq hi.out.symm, hb.alloc hb.size _⟩

/-- the parser as the walk meets it -/
theorem Pz.c1 {T : List Tok} {bp bt cap a dep : Nat} {w : World} (h : Pz T bp bt cap a dep w) : w.cell? ⟨bp, 1, none⟩ = some (.int .i64 a) := cell_of_row _ _ _ _ _ _ h.blk
theorem Pz.c2 {T : List Tok} {bp bt cap a dep : Nat} {w : World} (h : Pz T bp bt cap a dep w) : w.cell? ⟨bp, 2, none⟩ = some (.int .i64 dep) := cell_of_row _ _ _ _ _ _ h.blk
theorem Pz.f1 {T : List Tok} {bp bt cap a dep : Nat} {w : World} (h : Pz T bp bt cap a dep w) : w.frozen? ⟨bp, 1, none⟩ = false := frozen_of_row _ _ _ _ _ h.blk
theorem Pz.f2 {T : List Tok} {bp bt cap a dep : Nat} {w : World} (h : Pz T bp bt cap a dep w) : w.frozen? ⟨bp, 2, none⟩ = false := frozen_of_row _ _ _ _ _ h.blk
theorem rangeAt_set {w : World} {bt bp o i : Nat} {cs : List Value} (h : w.rangeAt bt o cs) (hne : bp ≠ bt) (v : Value) : (w.setCell ⟨bp, i, none⟩ v).rangeAt bt o cs := fun j u hu => by
  rw [World.cell?_of_block (w := w) (heap_setCell_other w ⟨bp, i, none⟩ bt v (Ne.symm hne))]
  exact h j u hu
theorem Pz.setAt {T : List Tok} {bp bt cap a dep : Nat} {w : World} (h : Pz T bp bt cap a dep w) {n : Nat} (hn : n < T.length) : Pz T bp bt cap n dep (w.setCell ⟨bp, 1, none⟩ (.int .i64 n)) where
  blk := heap_setCell_same w bp 1 _ 141 _ h.blk
  toks i t ht := rangeAt_set (h.toks i t ht) h.ne _
  ne := h.ne
  inb := by simpa [World.setCell] using h.inb
  lt := hn
  fin := h.fin
  few := h.few
  dle := h.dle
theorem Pz.setDep {T : List Tok} {bp bt cap a dep : Nat} {w : World} (h : Pz T bp bt cap a dep w) {n : Nat} (hn : n ≤ 32) : Pz T bp bt cap a n (w.setCell ⟨bp, 2, none⟩ (.int .i64 n)) where
  blk := heap_setCell_same w bp 2 _ 141 _ h.blk
  toks i t ht := rangeAt_set (h.toks i t ht) h.ne _
  ne := h.ne
  inb := by simpa [World.setCell] using h.inb
  lt := h.lt
  fin := h.fin
  few := h.few
  dle := hn
/-- behind a call of the parser's: new blocks, and the parser's own block -/
abbrev Kept (bp : Nat) (w w' : World) : Prop := w.grownBy w' (some bp)
theorem Kept.of_below {bp : Nat} {w w' : World} (h : Below w.heap.size w w') : Kept bp w w' := ⟨h.os, h.tape, h.output, h.size, fun k hk _ => h.block k hk⟩
theorem Kept.trans {bp : Nat} {a b c : World} (h : Kept bp a b) (k : Kept bp b c) : Kept bp a c :=
  ⟨k.os.trans h.os, k.tape.trans h.tape, k.output.trans h.output, Nat.le_trans h.size k.size, fun i hi hne => (k.block i (Nat.lt_of_lt_of_le hi h.size) hne).trans (h.block i hi hne)⟩
theorem Kept.refl (bp : Nat) (w : World) : Kept bp w w := ⟨rfl, rfl, rfl, Nat.le_refl _, fun _ _ _ => rfl⟩
theorem Kept.set {bp : Nat} {a w : World} (h : Kept bp a w) (i : Nat) (v : Value) : Kept bp a (w.setCell ⟨bp, i, none⟩ v) :=
  h.trans ⟨rfl, rfl, rfl, by simp [World.setCell], fun k _ hne => heap_setCell_other w ⟨bp, i, none⟩ k v (fun e => hne (by rw [e]))⟩
theorem Kept.alloc {bp : Nat} {a w : World} (h : Kept bp a w) (o : Obj) : Kept bp a (w.alloc o) := h.trans (World.grownBy_alloc w o _)
/-- a function that keeps its result in a first block of its own -/
theorem fin_blk {bp : Nat} {w wx : World} {cs : Array Value} {t : TypeId} (h : Kept bp (w.alloc (.cells cs t)) wx) (hb : bp < w.heap.size) : wx.heap[w.heap.size]? = some (.cells cs t (0, 0)) :=
  (h.block w.heap.size (by simp) (fun e => by have := Option.some.inj e; omega)).trans (heap_alloc_new _ _)
theorem fin_kept {bp : Nat} {w wx : World} {o : Obj} (h : Kept bp (w.alloc o) wx) (_hb : bp < w.heap.size) (cs : Array Value) : Kept bp w (wx.setRow w.heap.size cs) :=
  let k := ((Kept.refl bp w).alloc o).trans h
  ⟨k.os, k.tape, k.output, by have := k.size; simpa using this, fun i hi hne => (setRow_other cs (by omega)).trans (k.block i hi hne)⟩
theorem Pz.setRow {T : List Tok} {bp bt cap a dep g : Nat} {w : World} (h : Pz T bp bt cap a dep w) (h1 : bp ≠ g) (h2 : bt ≠ g) (cs : Array Value) : Pz T bp bt cap a dep (w.setRow g cs) where
  blk := (setRow_other cs h1).trans h.blk
  toks i t ht j u hu := by
    rw [World.cell?_of_block (w := w) (setRow_other cs h2)]
    exact h.toks i t ht j u hu
  ne := h.ne
  inb := by simpa using h.inb
  lt := h.lt
  fin := h.fin
  few := h.few
  dle := h.dle
theorem step_lt {T : List Tok} {bp bt cap a dep : Nat} {w : World} (h : Pz T bp bt cap a dep w) (hk : (tokAt T a).kind ≠ 0) : a + 1 < T.length := h.fin a _ (tokAt_some h.lt) hk
theorem isB_kind {t : Tok} {s : List B} (h : isB t s = true) : t.kind ≠ 0 := by
  simp only [isB, Bool.and_eq_true, beq_iff_eq] at h
  rw [h.1]; decide

set_option maxRecDepth 100000 in
set_option maxHeartbeats 1000000 in
theorem take_yes {T : List Tok} {bp bt cap a dep : Nat} {w : World} (h : Pz T bp bt cap a dep w) (s : ByteArray) (hi : isB (tokAt T a) s.data.toList = true) :
    Calls Tryz.prog 118 #[.pointer (some ⟨bp, 0, none⟩), .string s] w fun e w' => e = .returned (.bool true) ∧ Kept bp w w' ∧ Pz T bp bt cap (a + 1) dep w' := by
  have hlt := step_lt h (isB_kind hi)
  have hfew := h.few
  have HI := hid hi
  clear hi
  go_enter Tryz.func118, Tryz.ntmps118
  go_wp2_with (go_at_call 150; refine (is_any h _).mono ?_; rintro e w1 ⟨rfl, hb⟩; rw [HI.out]; have hc1 := (h.below hb).c1; have hf1 := (h.below hb).f1)
  go_ret
  exact ⟨rfl, (Kept.of_below hb).set 1 _, (h.below hb).setAt hlt⟩
set_option maxRecDepth 100000 in
set_option maxHeartbeats 1000000 in
theorem take_no {T : List Tok} {bp bt cap a dep : Nat} {w : World} (h : Pz T bp bt cap a dep w) (s : ByteArray) (hi : isB (tokAt T a) s.data.toList = false) :
    Calls Tryz.prog 118 #[.pointer (some ⟨bp, 0, none⟩), .string s] w fun e w' => e = .returned (.bool false) ∧ Below w.heap.size w w' := by
  have HI := hid hi
  clear hi
  go_enter Tryz.func118, Tryz.ntmps118
  go_wp2_with (go_at_call 150; refine (is_any h _).mono ?_; rintro e w1 ⟨rfl, hb⟩; rw [HI.out])
  go_ret
  exact ⟨rfl, hb⟩

set_option maxRecDepth 100000 in
set_option maxHeartbeats 1000000 in
theorem need_yes {T : List Tok} {bp bt cap a dep : Nat} {w : World} (h : Pz T bp bt cap a dep w) (s : ByteArray) (hi : isB (tokAt T a) s.data.toList = true) :
    Calls Tryz.prog 123 #[.pointer (some ⟨bp, 0, none⟩), .string s] w fun e w' => e = .returned (.tuple #[]) ∧ Kept bp w w' ∧ Pz T bp bt cap (a + 1) dep w' := by
  go_enter Tryz.func123, Tryz.ntmps123
  go_wp2_with (go_at_call 118; refine (take_yes h _ hi).mono ?_; rintro e w1 ⟨rfl, hk, hz⟩)
  go_end0
  exact ⟨rfl, hk, hz⟩
set_option maxRecDepth 100000 in
set_option maxHeartbeats 1000000 in
theorem need_no {T : List Tok} {bp bt cap a dep : Nat} {w : World} (h : Pz T bp bt cap a dep w) (s : ByteArray) (hi : isB (tokAt T a) s.data.toList = false) :
    Calls Tryz.prog 123 #[.pointer (some ⟨bp, 0, none⟩), .string s] w fun e w' => e = faultE (tokAt T a).pos 4 ∧ Below w.heap.size w w' := by
  go_enter Tryz.func123, Tryz.ntmps123
  go_wp2_with (first | (go_at_call 118; refine (take_no h _ hi).mono ?_; rintro e w1 ⟨rfl, hb⟩) | (go_at_call 107; refine (fail_any (h.below hb) _).mono ?_; rintro e w2 ⟨rfl, hb2⟩))
  exact ⟨rfl, rfl, hb.trans (hb2.mono hb.size)⟩
set_option maxRecDepth 100000 in
set_option maxHeartbeats 1000000 in
theorem of_yes {T : List Tok} {bp bt cap a dep : Nat} {w : World} (h : Pz T bp bt cap a dep w) (k : Int) (hk0 : k ≠ 0) (hi : ((tokAt T a).kind != k) = false) :
    Calls Tryz.prog 122 #[.pointer (some ⟨bp, 0, none⟩), .int .i64 k] w fun e w' => e = .returned (.agg (tokAt T a).cells) ∧ Kept bp w w' ∧ Pz T bp bt cap (a + 1) dep w' := by
  have hkd : (tokAt T a).kind ≠ 0 := by
    have : (tokAt T a).kind = k := by simpa using hi
    rw [this]; exact hk0
  have hlt := step_lt h hkd
  have hfew := h.few
  clear hkd hk0
  have hbp := h.bp_lt
  have hbp' : bp ≠ w.heap.size := by omega
  have hbt' : bt ≠ w.heap.size := by have := h.inb; omega
  have h0 : Pz T bp bt cap a dep (w.alloc (.cells Tok.zero.cells 139)) := h.below ((Below.refl _ _).alloc (Nat.le_refl _) _)
  go_enter Tryz.func122, Tryz.ntmps122
  go_wp2_with (first | (go_at_call 106; refine (tok_any h0).mono ?_; rintro e w1 ⟨rfl, hb⟩; simp only [Tok.cells]; have hc1 := (h0.below hb).c1; have hf1 := (h0.below hb).f1; have hl1 := (h0.below hb).bp_lt) | (refine wpList_store_blk rfl 139 (.tmp 4) (.tmp 21) rfl 8 info63 w.heap.size 139 Tok.zero.cells ?_ rfl (tokAt T a).cells rfl rfl rfl rfl ?_))
  case refine_1 => exact fin_blk (((Kept.of_below hb).set 1 _).alloc _) hbp
  exact bodyPost_ret (results_cell_row rfl _ _ w.heap.size 139 _ (0, 0) _ rfl (setRow_heap (fin_blk (((Kept.of_below hb).set 1 _).alloc _) hbp) _) Tryz.underlying139 rfl info63) rfl ⟨rfl, fin_kept (((Kept.of_below hb).set 1 _).alloc _) hbp _, (((h0.below hb).setAt hlt).below ((Below.refl _ _).alloc (Nat.le_refl _) _)).setRow hbp' hbt' _⟩
end Go.Proofs.YtfljcfdfgojdoaaGreatDoor

namespace Go.Proofs.YtfljcfdfgojdoaaGreatDoor
open Go.RowKit Go.Lib

/-- the nine cells of an expression -/
abbrev reC (k : Int) (x : List B) (s : Se) (v : Value) (mn mx : Int) : Array Value := #[.int .i64 k, .string ⟨x.toArray⟩, .int .u64 s.a, .int .u64 s.b, .int .u64 s.c, .int .u64 s.d, v, .int .i64 mn, .int .i64 mx]
abbrev reZ : Array Value := #[.int .i64 0, .string ⟨#[]⟩, .int .u64 0, .int .u64 0, .int .u64 0, .int .u64 0, .slice none 0 0, .int .i64 0, .int .i64 0]
theorem info27 : (Tryz.prog.info? 33).map (·.size) = some 9 := by kernel_rfl
theorem info27' : (Tryz.prog.info? 33).map (fun i => (i.zero, i.size, i.bytes)) = some (some (.agg reZ), 9, 96) := by kernel_rfl
mutual
/-- nine cells read as an expression, whose parts lie in blocks that F holds of -/
def ReIn (F : Nat → Prop) (w : World) : Re → Array Value → Prop
  | .mk k x s ps mn mx, cs => ∃ ad cap xs, cs = reC k x s (.slice ad ps.length cap) mn mx ∧ w.ownsRow 0 33 9 (.slice ad ps.length cap) ps.length xs ∧ (∀ g, (Value.slice ad ps.length cap).ownBlock = some g → F g) ∧ PartsIn F w ps xs
def PartsIn (F : Nat → Prop) (w : World) : List Re → List Value → Prop
  | [], xs => xs = []
  | r :: rs, xs => ∃ cs rest, xs = cs.toList ++ rest ∧ ReIn F w r cs ∧ PartsIn F w rs rest
end
/-- the same, in blocks from base on -/
abbrev ReAt (base : Nat) : World → Re → Array Value → Prop := ReIn fun g => base ≤ g
theorem ownsRow_exist {w : World} {base e size n : Nat} {v : Value} {xs : List Value} (h : w.ownsRow base e size v n xs) {g : Nat} (hg : v.ownBlock = some g) : g < w.heap.size ∨ n = 0 := by
  rcases h.2 with ⟨rfl, h0⟩ | ⟨g', cap, cur, rfl, hbg, hgg, rest⟩
  · exact .inr h0
  · simp [Value.ownBlock] at hg
    subst hg
    exact .inl (Array.getElem?_eq_some_iff.1 hgg).1
theorem ownsRow_same {w w' : World} {base b2 e size n : Nat} {v : Value} {xs : List Value} (h : w.ownsRow base e size v n xs) (hb : ∀ g, v.ownBlock = some g → b2 ≤ g) (hf : ∀ g, v.ownBlock = some g → g < w.heap.size → w'.heap[g]? = w.heap[g]?) : w'.ownsRow b2 e size v n xs := by
  refine ⟨h.1, ?_⟩
  rcases h.2 with hn | ⟨g, cap, cur, rfl, hbg, hgg, rest⟩
  · exact .inl hn
  · exact .inr ⟨g, cap, cur, rfl, hb g rfl, (hf g rfl (Array.getElem?_eq_some_iff.1 hgg).1).trans hgg, rest⟩
mutual
theorem ReIn.frame {F F' : Nat → Prop} {w w' : World} (hF : ∀ g, F g → g < w.heap.size → F' g) (hf : ∀ g, F g → g < w.heap.size → w'.heap[g]? = w.heap[g]?) : ∀ {r : Re} {cs : Array Value}, ReIn F w r cs → ReIn F' w' r cs
  | .mk k x s ps mn mx, cs, h => by
    unfold ReIn at h ⊢
    obtain ⟨ad, cap, xs, h1, h2, h3, h4⟩ := h
    refine ⟨ad, cap, xs, h1, ownsRow_same h2 (fun _ _ => Nat.zero_le _) (fun g hg hl => hf g (h3 g hg) hl), fun g hg => ?_, PartsIn.frame hF hf h4⟩
    rcases h2.2 with ⟨hv, _⟩ | ⟨g', cap', cur, hv, _, hgg, _⟩
    · rw [hv] at hg; simp [Value.ownBlock] at hg
    · have hg0 := hg
      rw [hv] at hg
      simp [Value.ownBlock] at hg
      subst hg
      exact hF _ (h3 _ hg0) (Array.getElem?_eq_some_iff.1 hgg).1
theorem PartsIn.frame {F F' : Nat → Prop} {w w' : World} (hF : ∀ g, F g → g < w.heap.size → F' g) (hf : ∀ g, F g → g < w.heap.size → w'.heap[g]? = w.heap[g]?) : ∀ {l : List Re} {xs : List Value}, PartsIn F w l xs → PartsIn F' w' l xs
  | [], xs, h => by unfold PartsIn at h ⊢; exact h
  | r :: rs, xs, h => by
    unfold PartsIn at h ⊢
    obtain ⟨cs, rest, h1, h2, h3⟩ := h
    exact ⟨cs, rest, h1, ReIn.frame hF hf h2, PartsIn.frame hF hf h3⟩
end
theorem ReIn.kept {bp base b2 : Nat} {w w' : World} {r : Re} {cs : Array Value} (h : ReAt base w r cs) (hk : Kept bp w w') (hb : bp < base) (h2 : b2 ≤ base) : ReAt b2 w' r cs :=
  h.frame (fun _ hg _ => Nat.le_trans h2 hg) (fun g hg hl => hk.block g hl (fun e => by have := Option.some.inj e; omega))
/-- a leaf of one's own making -/
theorem ReIn.leaf (F : Nat → Prop) (w : World) (k : Int) (x : List B) (s : Se) (mn mx : Int) : ReIn F w (.mk k x s [] mn mx) (reC k x s (.slice none 0 0) mn mx) := by
  unfold ReIn
  exact ⟨none, 0, [], rfl, World.ownsRow_nil _ _ _ _, fun g hg => by simp [Value.ownBlock] at hg, by unfold PartsIn; rfl⟩

/-- what a function of the parser leaves that hands back an expression -/
def RePost (T : List Tok) (bp bt cap a dep : Nat) (w : World) (x : R) (e : Ending) (w' : World) : Prop :=
  Kept bp w w' ∧ match x with
  | .ok (r, a') => a < a' ∧ Pz T bp bt cap a' dep w' ∧ ∃ cs, e = .returned (.agg cs) ∧ ReAt w.heap.size w' r cs
  | .error (p, y) => e = faultE p y
theorem reserved_any (s : ByteArray) (w : World) :
    Calls Tryz.prog 147 #[.string s] w fun e w' => e = .returned (.bool (reservedB s.data.toList)) ∧ w = w' := by
  go_enter Tryz.func147, Tryz.ntmps147
  go_wp2
  all_goals go_ret
  all_goals refine ⟨bool_eq ?_, rfl⟩
  all_goals simp_all [reservedB, toList_data]

set_option maxRecDepth 100000 in
set_option maxHeartbeats 1000000 in
theorem leave_any {T : List Tok} {bp bt cap a dep : Nat} {w : World} (h : Pz T bp bt cap a (dep + 1) w) :
    Calls Tryz.prog 209 #[.pointer (some ⟨bp, 0, none⟩)] w fun e w' => e = .returned (.tuple #[]) ∧ Kept bp w w' ∧ Pz T bp bt cap a dep w' := by
  have hdle := h.dle
  have hc2 := h.c2
  have hf2 := h.f2
  have hst : Pz T bp bt cap a dep (w.setCell ⟨bp, 2, none⟩ (.int .i64 dep)) := h.setDep (by omega)
  go_enter Tryz.func209, Tryz.ntmps209
  go_wp2
  go_end0
  exact ⟨rfl, (Kept.refl bp w).set 2 _, by simpa using hst⟩
end Go.Proofs.YtfljcfdfgojdoaaGreatDoor

namespace Go.Proofs.YtfljcfdfgojdoaaGreatDoor
open Go.RowKit Go.Lib

set_option maxRecDepth 100000 in
set_option maxHeartbeats 1000000 in
theorem name_yes {T : List Tok} {bp bt cap a dep : Nat} {w : World} (h : Pz T bp bt cap a dep w) (h1 : reservedB (tokAt T a).text = false) (h2 : ((tokAt T a).kind != 1) = false) :
    Calls Tryz.prog 181 #[.pointer (some ⟨bp, 0, none⟩)] w fun e w' => e = .returned (.string ⟨(tokAt T a).text.toArray⟩) ∧ Kept bp w w' ∧ Pz T bp bt cap (a + 1) dep w' := by
  have q1 := field1
  have H1 := hid h1
  clear h1
  go_enter Tryz.func181, Tryz.ntmps181
  go_wp2_with (first | (go_at_call 106; refine (tok_any h).mono ?_; rintro e w1 ⟨rfl, hb⟩; simp only [Tok.cells]) | (go_at_call 147; refine (reserved_any _ _).mono ?_; rintro e w2 ⟨rfl, rfl⟩; simp only [H1.out]) | (go_at_call 122; refine (of_yes (h.below hb) 1 (by decide) h2).mono ?_; rintro e w2 ⟨rfl, hk, hz⟩; simp only [Tok.cells]))
  go_ret
  exact ⟨rfl, (Kept.of_below hb).trans hk, hz⟩
set_option maxRecDepth 100000 in
set_option maxHeartbeats 1000000 in
theorem name_no1 {T : List Tok} {bp bt cap a dep : Nat} {w : World} (h : Pz T bp bt cap a dep w) (h1 : reservedB (tokAt T a).text = true) :
    Calls Tryz.prog 181 #[.pointer (some ⟨bp, 0, none⟩)] w fun e w' => e = faultE (tokAt T a).pos 4 ∧ Below w.heap.size w w' := by
  have q1 := field1
  have H1 := hid h1
  clear h1
  go_enter Tryz.func181, Tryz.ntmps181
  go_wp2_with (first | (go_at_call 106; refine (tok_any h).mono ?_; rintro e w1 ⟨rfl, hb⟩; simp only [Tok.cells]) | (go_at_call 147; refine (reserved_any _ _).mono ?_; rintro e w2 ⟨rfl, rfl⟩; simp only [H1.out]) | (go_at_call 107; refine (fail_any (h.below hb) _).mono ?_; rintro e w2 ⟨rfl, hb2⟩))
  exact ⟨rfl, rfl, hb.trans (hb2.mono hb.size)⟩
theorem bnext {w w1 w2 : World} (h : Below w.heap.size w w1) (k : Below w1.heap.size w1 w2) : Below w.heap.size w w2 := h.trans (k.mono h.size)
theorem bbox {w w1 : World} (h : Below w.heap.size w w1) (o : Obj) : Below w.heap.size w (w1.alloc o) := h.alloc h.size o

/-- what often leaves -/
def OftenPost (T : List Tok) (bp bt cap a dep : Nat) (w : World) (e : Ending) (w' : World) : Prop :=
  e = .returned (.tuple #[.int .i64 (oftenM T a).least, .int .i64 (oftenM T a).most, .bool (oftenM T a).ok]) ∧ Kept bp w w' ∧ Pz T bp bt cap (oftenM T a).next dep w'
set_option maxRecDepth 100000 in
set_option maxHeartbeats 1000000 in
theorem often_any {T : List Tok} {bp bt cap a dep : Nat} {w : World} (h : Pz T bp bt cap a dep w) :
    Calls Tryz.prog 179 #[.pointer (some ⟨bp, 0, none⟩)] w (OftenPost T bp bt cap a dep w) := by
  cases h1 : isB (tokAt T a) [42]
  · cases h2 : isB (tokAt T a) [43]
    · cases h3 : isB (tokAt T a) [63]
      · have hm : Hid (oftenM T a = ⟨0, 0, false, a⟩) := by show _ = _; simp [oftenM, h1, h2, h3]
        go_enter Tryz.func179, Tryz.ntmps179
        go_wp2_with (first | (go_at_call_of 118 (Value.string ⟨#[42]⟩); refine (take_no h _ h1).mono ?_; rintro e w1 ⟨rfl, hb1⟩) | (go_at_call_of 118 (Value.string ⟨#[43]⟩); refine (take_no (h.below hb1) _ h2).mono ?_; rintro e w2 ⟨rfl, hb2⟩) | (go_at_call_of 118 (Value.string ⟨#[63]⟩); refine (take_no ((h.below hb1).below hb2) _ h3).mono ?_; rintro e w3 ⟨rfl, hb3⟩))
        go_ret3
        unfold OftenPost
        rw [hm.out]
        exact ⟨rfl, Kept.of_below (bnext (bnext hb1 hb2) hb3), ((h.below hb1).below hb2).below hb3⟩
      · have hm : Hid (oftenM T a = ⟨0, 1, true, a + 1⟩) := by show _ = _; simp [oftenM, h1, h2, h3]
        go_enter Tryz.func179, Tryz.ntmps179
        go_wp2_with (first | (go_at_call_of 118 (Value.string ⟨#[42]⟩); refine (take_no h _ h1).mono ?_; rintro e w1 ⟨rfl, hb1⟩) | (go_at_call_of 118 (Value.string ⟨#[43]⟩); refine (take_no (h.below hb1) _ h2).mono ?_; rintro e w2 ⟨rfl, hb2⟩) | (go_at_call_of 118 (Value.string ⟨#[63]⟩); refine (take_yes ((h.below hb1).below hb2) _ h3).mono ?_; rintro e w3 ⟨rfl, hk3, hz3⟩))
        go_ret3
        unfold OftenPost
        rw [hm.out]
        exact ⟨rfl, (Kept.of_below (bnext hb1 hb2)).trans hk3, hz3⟩
    · have hm : Hid (oftenM T a = ⟨1, -1, true, a + 1⟩) := by show _ = _; simp [oftenM, h1, h2]
      go_enter Tryz.func179, Tryz.ntmps179
      go_wp2_with (first | (go_at_call_of 118 (Value.string ⟨#[42]⟩); refine (take_no h _ h1).mono ?_; rintro e w1 ⟨rfl, hb1⟩) | (go_at_call_of 118 (Value.string ⟨#[43]⟩); refine (take_yes (h.below hb1) _ h2).mono ?_; rintro e w3 ⟨rfl, hk3, hz3⟩))
      go_ret3
      unfold OftenPost
      rw [hm.out]
      exact ⟨rfl, (Kept.of_below hb1).trans hk3, hz3⟩
  · have hm : Hid (oftenM T a = ⟨0, -1, true, a + 1⟩) := by show _ = _; simp [oftenM, h1]
    go_enter Tryz.func179, Tryz.ntmps179
    go_wp2_with (go_at_call_of 118 (Value.string ⟨#[42]⟩); refine (take_yes h _ h1).mono ?_; rintro e w3 ⟨rfl, hk3, hz3⟩)
    go_ret3
    unfold OftenPost
    rw [hm.out]
    exact ⟨rfl, hk3, hz3⟩

end Go.Proofs.YtfljcfdfgojdoaaGreatDoor

namespace Go.Proofs.YtfljcfdfgojdoaaGreatDoor
open Go.RowKit Go.Lib

abbrev notNone : Se := notS Se.none
theorem RePost.mk_ok {T : List Tok} {bp bt cap a dep : Nat} {w w' : World} {x : R} {r : Re} {a' : Nat} {e : Ending} {cs : Array Value} (hx : x = .ok (r, a')) (hk : Kept bp w w') (hl : a < a') (hz : Pz T bp bt cap a' dep w') (he : e = .returned (.agg cs)) (hr : ReAt w.heap.size w' r cs) : RePost T bp bt cap a dep w x e w' := by
  subst hx; exact ⟨hk, hl, hz, cs, he, hr⟩
theorem RePost.mk_bad {T : List Tok} {bp bt cap a dep : Nat} {w w' : World} {x : R} {p y : Int} {e : Ending} (hx : x = .error (p, y)) (hk : Kept bp w w') (he : e = faultE p y) : RePost T bp bt cap a dep w x e w' := by
  subst hx; exact ⟨hk, he⟩
theorem fin_re {T : List Tok} {bp bt cap a dep : Nat} {w wx : World} {x : R} {r : Re} {a' : Nat} {cs : Array Value} (hx : x = .ok (r, a')) (hk : Kept bp (w.alloc (.cells reZ 33)) wx) (hz : Pz T bp bt cap a' dep wx) (hbp : bp < w.heap.size) (hbt : bt < w.heap.size) (hl : a < a') (hr : ReAt (w.heap.size + 1) wx r cs) :
    RePost T bp bt cap a dep w x (.returned (.agg cs)) (wx.setRow w.heap.size cs) :=
  RePost.mk_ok hx (fin_kept hk hbp _) hl (hz.setRow (by omega) (by omega) _) rfl (hr.frame (fun g hg _ => by omega) (fun g hg _ => setRow_other cs (by omega)))
theorem ReIn.up {base b2 : Nat} {w : World} {r : Re} {cs : Array Value} (h : ReAt base w r cs) (hb : b2 ≤ base) : ReAt b2 w r cs := h.frame (fun _ hg _ => Nat.le_trans hb hg) (fun _ _ _ => rfl)
theorem leafM_name {T : List Tok} {a : Nat} (k2 : ((tokAt T a).kind == 2) = false) (k3 : ((tokAt T a).kind == 3) = false) (k1 : ((tokAt T a).kind == 1) = true) :
    leafM notNone T a = match nameM T a with | .error e => .error e | .ok (s, a') => .ok (.mk 3 s Se.none [] 0 0, a') := by
  simp only [leafM, k1, k2, k3, Bool.false_eq_true, if_false, if_true]
  rfl

set_option maxRecDepth 100000 in
set_option maxHeartbeats 1000000 in
theorem leaf_any {T : List Tok} {bp bt cap a dep : Nat} {w : World} (h : Pz T bp bt cap a dep w) :
    Calls Tryz.prog 210 #[.pointer (some ⟨bp, 0, none⟩)] w (RePost T bp bt cap a dep w (leafM notNone T a)) := by
  have hbp := h.bp_lt
  have hbt := h.inb
  have hfew := h.few
  have h0 : Pz T bp bt cap a dep (w.alloc (.cells reZ 33)) := h.below ((Below.refl _ _).alloc (Nat.le_refl _) _)
  cases k2 : ((tokAt T a).kind == 2)
  · cases k3 : ((tokAt T a).kind == 3)
    · cases k1 : ((tokAt T a).kind == 1)
      · cases hd : isB (tokAt T a) [46]
        · have hm := hid (show leafM notNone T a = .error ((tokAt T a).pos, 4) by simp [leafM, k1, k2, k3, hd])
          go_enter Tryz.func210, Tryz.ntmps210
          go_wp2_with (first | (go_at_call 106; refine (tok_any h0).mono ?_; rintro e w1 ⟨rfl, hb⟩; simp only [Tok.cells]; have hc1 := (h0.below hb).c1; have hf1 := (h0.below hb).f1; have hl1 := (h0.below hb).bp_lt; have hz := h0.below (hb.alloc hb.size (.cells (tokAt T a).cells 139))) | (go_at_call 123; refine (need_no hz _ hd).mono ?_; rintro e w2 ⟨rfl, hb2⟩))
          exact ⟨rfl, RePost.mk_bad hm.out (((Kept.refl bp w).alloc _).trans ((Kept.of_below hb).alloc _ |>.trans (Kept.of_below hb2))) rfl⟩
        · have hm := hid (show leafM notNone T a = .ok (.mk 2 [] notNone [] 0 0, a + 1) by simp [leafM, k1, k2, k3, hd])
          go_enter Tryz.func210, Tryz.ntmps210
          go_wp2_with (first | (go_at_call 106; refine (tok_any h0).mono ?_; rintro e w1 ⟨rfl, hb⟩; simp only [Tok.cells]; have hc1 := (h0.below hb).c1; have hf1 := (h0.below hb).f1; have hl1 := (h0.below hb).bp_lt; have hz := h0.below (hb.alloc hb.size (.cells (tokAt T a).cells 139))) | (go_at_call 123; refine (need_yes hz _ hd).mono ?_; rintro e w2 ⟨rfl, hk2, hz2⟩) | (go_at_call 142; refine (not_any Se.none _).mono ?_; rintro e w3 ⟨rfl, hb3⟩) | (refine wpList_store_blk rfl 33 (.tmp 2) (.tmp 41) rfl 9 info27 w.heap.size 33 reZ ?hg rfl (reC 2 [] notNone (.slice none 0 0) 0 0) rfl rfl rfl rfl ?_))
          case hg => exact fin_blk (((Kept.of_below hb).alloc _).trans (hk2.trans (Kept.of_below hb3))) hbp
          refine bodyPost_ret (results_cell_row rfl _ _ w.heap.size 33 _ (0, 0) _ rfl (setRow_heap (fin_blk (((Kept.of_below hb).alloc _).trans (hk2.trans (Kept.of_below hb3))) hbp) _) Tryz.underlying33 rfl info27) rfl ?_
          exact fin_re hm.out (((Kept.of_below hb).alloc _).trans (hk2.trans (Kept.of_below hb3))) (hz2.below hb3) hbp hbt (Nat.lt_succ_self a) (ReIn.leaf _ _ _ _ _ _ _)
      · cases hr : reservedB (tokAt T a).text
        · have hm := hid (show leafM notNone T a = .ok (.mk 3 (tokAt T a).text Se.none [] 0 0, a + 1) by
            have hk : ((tokAt T a).kind != 1) = false := by simpa using k1
            rw [leafM_name k2 k3 k1]; simp only [nameM, hr, hk, Bool.false_eq_true, if_false])
          go_enter Tryz.func210, Tryz.ntmps210
          go_wp2_with (first | (go_at_call 106; refine (tok_any h0).mono ?_; rintro e w1 ⟨rfl, hb⟩; simp only [Tok.cells]; have hc1 := (h0.below hb).c1; have hf1 := (h0.below hb).f1; have hl1 := (h0.below hb).bp_lt; have hz := h0.below (hb.alloc hb.size (.cells (tokAt T a).cells 139))) | (go_at_call 181; refine (name_yes hz hr (by simpa using k1)).mono ?_; rintro e w2 ⟨rfl, hk2, hz2⟩) | (refine wpList_store_blk rfl 33 (.tmp 2) (.tmp 36) rfl 9 info27 w.heap.size 33 reZ ?hg rfl (reC 3 (tokAt T a).text Se.none (.slice none 0 0) 0 0) rfl rfl rfl rfl ?_))
          case hg => exact fin_blk (((Kept.of_below hb).alloc _).trans hk2) hbp
          refine bodyPost_ret (results_cell_row rfl _ _ w.heap.size 33 _ (0, 0) _ rfl (setRow_heap (fin_blk (((Kept.of_below hb).alloc _).trans hk2) hbp) _) Tryz.underlying33 rfl info27) rfl ?_
          exact fin_re hm.out (((Kept.of_below hb).alloc _).trans hk2) (hz2) hbp hbt (Nat.lt_succ_self a) (ReIn.leaf _ _ _ _ _ _ _)
        · have hm := hid (show leafM notNone T a = .error ((tokAt T a).pos, 4) by rw [leafM_name k2 k3 k1]; simp only [nameM, hr, if_true])
          go_enter Tryz.func210, Tryz.ntmps210
          go_wp2_with (first | (go_at_call 106; refine (tok_any h0).mono ?_; rintro e w1 ⟨rfl, hb⟩; simp only [Tok.cells]; have hc1 := (h0.below hb).c1; have hf1 := (h0.below hb).f1; have hl1 := (h0.below hb).bp_lt; have hz := h0.below (hb.alloc hb.size (.cells (tokAt T a).cells 139))) | (go_at_call 181; refine (name_no1 hz hr).mono ?_; rintro e w2 ⟨rfl, hb2⟩))
          exact ⟨rfl, RePost.mk_bad hm.out (((Kept.refl bp w).alloc _).trans ((Kept.of_below hb).alloc _ |>.trans (Kept.of_below hb2))) rfl⟩
    · have hm := hid (show leafM notNone T a = .ok (.mk 2 [] (tokAt T a).set [] 0 0, a + 1) by simp [leafM, k2, k3])
      have hlt := step_lt h (by have : (tokAt T a).kind = 3 := by simpa using k3
                                rw [this]; decide)
      go_enter Tryz.func210, Tryz.ntmps210
      go_wp2_with (first | (go_at_call 106; refine (tok_any h0).mono ?_; rintro e w1 ⟨rfl, hb⟩; simp only [Tok.cells]; have hc1 := (h0.below hb).c1; have hf1 := (h0.below hb).f1; have hl1 := (h0.below hb).bp_lt; have hz := h0.below (hb.alloc hb.size (.cells (tokAt T a).cells 139))) | (refine wpList_store_blk rfl 33 (.tmp 2) (.tmp 31) rfl 9 info27 w.heap.size 33 reZ ?hg rfl (reC 2 [] (tokAt T a).set (.slice none 0 0) 0 0) rfl rfl rfl rfl ?_))
      case hg => exact fin_blk (((Kept.of_below hb).set 1 _).alloc _) hbp
      refine bodyPost_ret (results_cell_row rfl _ _ w.heap.size 33 _ (0, 0) _ rfl (setRow_heap (fin_blk (((Kept.of_below hb).set 1 _).alloc _) hbp) _) Tryz.underlying33 rfl info27) rfl ?_
      exact fin_re hm.out (((Kept.of_below hb).set 1 _).alloc _) (((h0.below hb).setAt hlt).below ((Below.refl _ _).alloc (Nat.le_refl _) _)) hbp hbt (Nat.lt_succ_self a) (ReIn.leaf _ _ _ _ _ _ _)
  · have hm := hid (show leafM notNone T a = .ok (.mk 1 (tokAt T a).text Se.none [] 0 0, a + 1) by simp [leafM, k2])
    have hlt := step_lt h (by have : (tokAt T a).kind = 2 := by simpa using k2
                              rw [this]; decide)
    go_enter Tryz.func210, Tryz.ntmps210
    go_wp2_with (first | (go_at_call 106; refine (tok_any h0).mono ?_; rintro e w1 ⟨rfl, hb⟩; simp only [Tok.cells]; have hc1 := (h0.below hb).c1; have hf1 := (h0.below hb).f1; have hl1 := (h0.below hb).bp_lt; have hz := h0.below (hb.alloc hb.size (.cells (tokAt T a).cells 139))) | (refine wpList_store_blk rfl 33 (.tmp 2) (.tmp 19) rfl 9 info27 w.heap.size 33 reZ ?hg rfl (reC 1 (tokAt T a).text Se.none (.slice none 0 0) 0 0) rfl rfl rfl rfl ?_))
    case hg => exact fin_blk (((Kept.of_below hb).set 1 _).alloc _) hbp
    refine bodyPost_ret (results_cell_row rfl _ _ w.heap.size 33 _ (0, 0) _ rfl (setRow_heap (fin_blk (((Kept.of_below hb).set 1 _).alloc _) hbp) _) Tryz.underlying33 rfl info27) rfl ?_
    exact fin_re hm.out (((Kept.of_below hb).set 1 _).alloc _) (((h0.below hb).setAt hlt).below ((Below.refl _ _).alloc (Nat.le_refl _) _)) hbp hbt (Nat.lt_succ_self a) (ReIn.leaf _ _ _ _ _ _ _)
end Go.Proofs.YtfljcfdfgojdoaaGreatDoor

namespace Go.Proofs.YtfljcfdfgojdoaaGreatDoor
open Go.RowKit Go.Lib

/-- a slice of expressions of the call's own: what its elements hold lies in other blocks than it does -/
structure Rs (base : Nat) (w : World) (l : List Re) (v : Value) : Prop where
  own : ∃ xs, w.ownsRow base 33 9 v l.length xs ∧ PartsIn (fun g => base ≤ g ∧ some g ≠ v.ownBlock) w l xs
theorem Rs.kept {bp base : Nat} {w w' : World} {l : List Re} {v : Value} (h : Rs base w l v) (hk : Kept bp w w') (hb : bp < base) : Rs base w' l v := by
  obtain ⟨xs, h1, h3⟩ := h.own
  exact ⟨xs, ownsRow_same h1 (fun g hg => own_block h1 hg) (fun g hg hl => hk.block g hl (fun e => by have := Option.some.inj e; have := own_block h1 hg; omega)),
    h3.frame (fun _ hg _ => hg) (fun g hg hl => hk.block g hl (fun e => by have := Option.some.inj e; have := hg.1; omega))⟩
theorem ReIn.cells {F : Nat → Prop} {w : World} {r : Re} {cs : Array Value} (h : ReIn F w r cs) : ∃ k x s ad n cap mn mx, cs = reC k x s (.slice ad n cap) mn mx := by
  obtain ⟨k, x, s, ps, mn, mx⟩ := r
  unfold ReIn at h
  obtain ⟨ad, cap, xs, rfl, _⟩ := h
  exact ⟨k, x, s, ad, _, cap, mn, mx, rfl⟩
theorem wpList_load_blk {P : Program} {ops : Array Oper} {rest : List Oper} {o : Oper} {a : Act} {w : World} {Q : Exit → Act → World → Prop} (hgd : o.guard = none) (ty : TypeId) (x : Operand) (ho : o.op = .load ty x)
    (n : Nat) (hi : (P.info? ty).map (·.size) = some n) (d : TypeDesc) (hu : P.underlying ty = some d) (hd : (match d with | .struct _ | .array _ _ => true | _ => false) = true)
    (g : Nat) (hx : a.eval x = .pointer (some ⟨g, 0, none⟩)) (t : TypeId) (cs : Array Value) (hg : w.heap[g]? = some (.cells cs t (0, 0))) (hn : cs.size = n)
    (h : wpList P ops Q rest (a.put o.dst (.agg cs)) w) : wpList P ops Q (o :: rest) a w := by
  subst hn
  exact wpList_load_row hgd ty x ho g hx t cs (0, 0) d hg hu hd hi h
end Go.Proofs.YtfljcfdfgojdoaaGreatDoor
