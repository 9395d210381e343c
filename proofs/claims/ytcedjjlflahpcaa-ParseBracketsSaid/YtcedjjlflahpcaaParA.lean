/-
  The contracts of the smallest methods of the parser (tok, fail, is, take, need, of), over a parser that lies in memory.
-/
import Derived.Test.YtcedjjlflahpcaaLexK
import Derived.Test.YtcedjjlflahpcaaParM
import Derived.Deep.MidRow
namespace Go.Proofs.Ytcedjjlflahpcaa
open Go.RowKit Go.Lib

/-- the parser in memory: its own block, the tokens' block -/
structure Pz (T : List Tok) (bp bt cap : Nat) (a dep : Nat) (w : World) : Prop where
  blk : w.heap[bp]? = some (.cells #[.slice (some ⟨bt, 0, none⟩) T.length cap, .int .i64 a, .int .i64 dep] 65 (0, 0))
  toks : ∀ i t, T[i]? = some t → w.rangeAt bt (i * 8) t.cells.toList
  ne : bp ≠ bt
  inb : bt < w.heap.size
  lt : a < T.length
  fin : ∀ i t, T[i]? = some t → t.kind ≠ 0 → i + 1 < T.length
  few : T.length ≤ 100000
  dle : dep ≤ 32
theorem Pz.bp_lt {T : List Tok} {bp bt cap a dep : Nat} {w : World} (h : Pz T bp bt cap a dep w) : bp < w.heap.size := (Array.getElem?_eq_some_iff.1 h.blk).1
theorem Pz.below {T : List Tok} {bp bt cap a dep : Nat} {w w1 : World} (h : Pz T bp bt cap a dep w) (hb : Below w.heap.size w w1) : Pz T bp bt cap a dep w1 where
  blk := (hb.block bp h.bp_lt).trans h.blk
  toks i t ht j v hv := (hb.cell (p := ⟨bt, i * 8 + j, none⟩) h.inb).trans (h.toks i t ht j v hv)
  ne := h.ne
  inb := Nat.lt_of_lt_of_le h.inb hb.size
  lt := h.lt
  fin := h.fin
  few := h.few
  dle := h.dle
theorem tokAt_some {T : List Tok} {a : Nat} (h : a < T.length) : T[a]? = some (tokAt T a) := by
  unfold tokAt; simp [List.getD, List.getElem?_eq_getElem h]

set_option maxHeartbeats 1000000 in
theorem tok_any {T : List Tok} {bp bt cap a dep : Nat} {w : World} (h : Pz T bp bt cap a dep w) :
    Calls Try.prog 22 #[.pointer (some ⟨bp, 0, none⟩)] w fun e w' => e = .returned (.agg (tokAt T a).cells) ∧ Below w.heap.size w w' := by
  have c0 : w.cell? ⟨bp, 0, none⟩ = some (.slice (some ⟨bt, 0, none⟩) T.length cap) := cell_of_row _ _ _ _ _ _ h.blk
  have c1 : w.cell? ⟨bp, 1, none⟩ = some (.int .i64 a) := cell_of_row _ _ _ _ _ _ h.blk
  have ht := h.toks a _ (tokAt_some h.lt)
  have hlt := h.lt
  have hfew := h.few
  have hbp := h.bp_lt
  have hbt := h.inb
  clear h
  generalize tokAt T a = t at *
  have k0 : w.cell? ⟨bt, a * 8, none⟩ = some (.int .i64 t.kind) := ht 0 _ rfl
  have k1 := ht 1 _ rfl
  have k2 := ht 2 _ rfl
  have k3 := ht 3 _ rfl
  have k4 := ht 4 _ rfl
  have k5 := ht 5 _ rfl
  have k6 := ht 6 _ rfl
  have k7 := ht 7 _ rfl
  clear ht
  have hlt' : (a : Int) < (T.length : Int) := by omega
  go_enter Try.func22, Try.ntmps22
  go_wp2
  go_region
  go_wp2
  exact bodyPost_ret (v := .agg t.cells) (by simp [results, Try.results22, go_sem, Tok.cells]) rfl ⟨rfl, (((Below.refl _ _).alloc (Nat.le_refl _) _).drew)⟩

theorem field0 (k : Int) (x : ByteArray) (a b c d n p : Int) (w : World) : (Instr.field 63 (.agg #[.int .i64 k, .string x, .int .u64 a, .int .u64 b, .int .u64 c, .int .u64 d, .int .i64 n, .int .i64 p]) 0).run Try.prog w = .ok (.int .i64 k) w := by kernel_rfl
theorem field1 (k : Int) (x : ByteArray) (a b c d n p : Int) (w : World) : (Instr.field 63 (.agg #[.int .i64 k, .string x, .int .u64 a, .int .u64 b, .int .u64 c, .int .u64 d, .int .i64 n, .int .i64 p]) 1).run Try.prog w = .ok (.string x) w := by kernel_rfl
theorem field4 (k : Int) (x : ByteArray) (a b c d n p : Int) (w : World) : (Instr.field 63 (.agg #[.int .i64 k, .string x, .int .u64 a, .int .u64 b, .int .u64 c, .int .u64 d, .int .i64 n, .int .i64 p]) 4).run Try.prog w = .ok (.int .i64 p) w := by kernel_rfl
/-- the panic by which a parser ends -/
abbrev faultE (p x : Int) : Ending := .panicked [{ v := .iface 67 (.agg #[.int .i64 p, .int .i64 x]), recovered := false }]

set_option maxRecDepth 100000 in
set_option maxHeartbeats 1000000 in
theorem fail_any {T : List Tok} {bp bt cap a dep : Nat} {w : World} (h : Pz T bp bt cap a dep w) (x : Int) :
    Calls Try.prog 23 #[.pointer (some ⟨bp, 0, none⟩), .int .i64 x] w fun e w' => e = faultE (tokAt T a).pos x ∧ Below w.heap.size w w' := by
  have q4 := field4
  go_enter Try.func23, Try.ntmps23
  go_wp2_with (go_at_call 22; refine (tok_any h).mono ?_; rintro e w1 ⟨rfl, hb⟩; simp only [Tok.cells])
  exact ⟨rfl, rfl, hb⟩

theorem isB_no {t : Tok} {s : List B} (h : (t.kind == 4) = false) : isB t s = false := by simp [isB, h]
theorem isB_yes {t : Tok} {s : ByteArray} (h : (t.kind == 4) = true) : isB t s.data.toList = (t.text == s.toList) := by simp [isB, h, toList_data]

set_option maxRecDepth 100000 in
set_option maxHeartbeats 1000000 in
theorem is_any {T : List Tok} {bp bt cap a dep : Nat} {w : World} (h : Pz T bp bt cap a dep w) (s : ByteArray) :
    Calls Try.prog 43 #[.pointer (some ⟨bp, 0, none⟩), .string s] w fun e w' => e = .returned (.bool (isB (tokAt T a) s.data.toList)) ∧ Below w.heap.size w w' := by
  cases hk : ((tokAt T a).kind == 4)
  · have hi := hid (isB_no (s := s.data.toList) hk)
    go_enter Try.func43, Try.ntmps43
    go_wp2_with (go_at_call 22; refine (tok_any h).mono ?_; rintro e w1 ⟨rfl, hb⟩; simp only [Tok.cells])
    go_ret
    exact ⟨bool_eq hi.out.symm, hb.alloc hb.size _⟩
  · have hi := hid (isB_yes (s := s) hk)
    go_enter Try.func43, Try.ntmps43
    go_wp2_with (go_at_call 22; refine (tok_any h).mono ?_; rintro e w1 ⟨rfl, hb⟩; simp only [Tok.cells])
    go_ret
    exact ⟨bool_eq hi.out.symm, hb.alloc hb.size _⟩

/-- the parser as the walk meets it -/
theorem Pz.c1 {T : List Tok} {bp bt cap a dep : Nat} {w : World} (h : Pz T bp bt cap a dep w) : w.cell? ⟨bp, 1, none⟩ = some (.int .i64 a) := cell_of_row _ _ _ _ _ _ h.blk
theorem Pz.c2 {T : List Tok} {bp bt cap a dep : Nat} {w : World} (h : Pz T bp bt cap a dep w) : w.cell? ⟨bp, 2, none⟩ = some (.int .i64 dep) := cell_of_row _ _ _ _ _ _ h.blk
theorem Pz.f1 {T : List Tok} {bp bt cap a dep : Nat} {w : World} (h : Pz T bp bt cap a dep w) : w.frozen? ⟨bp, 1, none⟩ = false := frozen_of_row _ _ _ _ _ h.blk
theorem Pz.f2 {T : List Tok} {bp bt cap a dep : Nat} {w : World} (h : Pz T bp bt cap a dep w) : w.frozen? ⟨bp, 2, none⟩ = false := frozen_of_row _ _ _ _ _ h.blk
theorem rangeAt_set {w : World} {bt bp o i : Nat} {cs : List Value} (h : w.rangeAt bt o cs) (hne : bp ≠ bt) (v : Value) : (w.setCell ⟨bp, i, none⟩ v).rangeAt bt o cs := fun j u hu => by
  rw [World.cell?_of_block (w := w) (heap_setCell_other w ⟨bp, i, none⟩ bt v (Ne.symm hne))]
  exact h j u hu
theorem Pz.setAt {T : List Tok} {bp bt cap a dep : Nat} {w : World} (h : Pz T bp bt cap a dep w) {n : Nat} (hn : n < T.length) : Pz T bp bt cap n dep (w.setCell ⟨bp, 1, none⟩ (.int .i64 n)) where
  blk := heap_setCell_same w bp 1 _ 65 _ h.blk
  toks i t ht := rangeAt_set (h.toks i t ht) h.ne _
  ne := h.ne
  inb := by simpa [World.setCell] using h.inb
  lt := hn
  fin := h.fin
  few := h.few
  dle := h.dle
theorem Pz.setDep {T : List Tok} {bp bt cap a dep : Nat} {w : World} (h : Pz T bp bt cap a dep w) {n : Nat} (hn : n ≤ 32) : Pz T bp bt cap a n (w.setCell ⟨bp, 2, none⟩ (.int .i64 n)) where
  blk := heap_setCell_same w bp 2 _ 65 _ h.blk
  toks i t ht := rangeAt_set (h.toks i t ht) h.ne _
  ne := h.ne
  inb := by simpa [World.setCell] using h.inb
  lt := h.lt
  fin := h.fin
  few := h.few
  dle := hn
/-- behind a call of the parser's: new blocks, and the parser's own block -/
abbrev Kept (bp : Nat) (w w' : World) : Prop := w.grownBy w' (some bp)
theorem Kept.of_below {bp : Nat} {w w' : World} (h : Below w.heap.size w w') : Kept bp w w' := ⟨h.os, h.tape, h.output, h.size, fun k hk _ => h.block k hk⟩
theorem Kept.trans {bp : Nat} {a b c : World} (h : Kept bp a b) (k : Kept bp b c) : Kept bp a c :=
  ⟨k.os.trans h.os, k.tape.trans h.tape, k.output.trans h.output, Nat.le_trans h.size k.size, fun i hi hne => (k.block i (Nat.lt_of_lt_of_le hi h.size) hne).trans (h.block i hi hne)⟩
theorem Kept.refl (bp : Nat) (w : World) : Kept bp w w := ⟨rfl, rfl, rfl, Nat.le_refl _, fun _ _ _ => rfl⟩
theorem Kept.set {bp : Nat} {a w : World} (h : Kept bp a w) (i : Nat) (v : Value) : Kept bp a (w.setCell ⟨bp, i, none⟩ v) :=
  h.trans ⟨rfl, rfl, rfl, by simp [World.setCell], fun k _ hne => heap_setCell_other w ⟨bp, i, none⟩ k v (fun e => hne (by rw [e]))⟩
theorem Kept.alloc {bp : Nat} {a w : World} (h : Kept bp a w) (o : Obj) : Kept bp a (w.alloc o) := h.trans (World.grownBy_alloc w o _)
/-- a function that keeps its result in a first block of its own -/
theorem fin_blk {bp : Nat} {w wx : World} {cs : Array Value} {t : TypeId} (h : Kept bp (w.alloc (.cells cs t)) wx) (hb : bp < w.heap.size) : wx.heap[w.heap.size]? = some (.cells cs t (0, 0)) :=
  (h.block w.heap.size (by simp) (fun e => by have := Option.some.inj e; omega)).trans (heap_alloc_new _ _)
theorem fin_kept {bp : Nat} {w wx : World} {o : Obj} (h : Kept bp (w.alloc o) wx) (_hb : bp < w.heap.size) (cs : Array Value) : Kept bp w (wx.setRow w.heap.size cs) :=
  let k := ((Kept.refl bp w).alloc o).trans h
  ⟨k.os, k.tape, k.output, by have := k.size; simpa using this, fun i hi hne => (setRow_other cs (by omega)).trans (k.block i hi hne)⟩
theorem Pz.setRow {T : List Tok} {bp bt cap a dep g : Nat} {w : World} (h : Pz T bp bt cap a dep w) (h1 : bp ≠ g) (h2 : bt ≠ g) (cs : Array Value) : Pz T bp bt cap a dep (w.setRow g cs) where
  blk := (setRow_other cs h1).trans h.blk
  toks i t ht j u hu := by
    rw [World.cell?_of_block (w := w) (setRow_other cs h2)]
    exact h.toks i t ht j u hu
  ne := h.ne
  inb := by simpa using h.inb
  lt := h.lt
  fin := h.fin
  few := h.few
  dle := h.dle
theorem below_two {w w1 w2 : World} {o o' : Obj} (h : Below (w.alloc o).heap.size (w.alloc o) w1) (h2 : Below (w1.alloc o').heap.size (w1.alloc o') w2) : Below w.heap.size w w2 := by
  have e1 : w.heap.size ≤ w1.heap.size := by have := h.size; simp at this; omega
  exact ((((Below.refl w.heap.size w).alloc (Nat.le_refl _) o).trans (h.mono (by simp))).alloc e1 o').trans (h2.mono (by simp; omega))
theorem step_lt {T : List Tok} {bp bt cap a dep : Nat} {w : World} (h : Pz T bp bt cap a dep w) (hk : (tokAt T a).kind ≠ 0) : a + 1 < T.length := h.fin a _ (tokAt_some h.lt) hk
theorem isB_kind {t : Tok} {s : List B} (h : isB t s = true) : t.kind ≠ 0 := by
  simp only [isB, Bool.and_eq_true, beq_iff_eq] at h
  rw [h.1]; decide

set_option maxRecDepth 100000 in
set_option maxHeartbeats 1000000 in
theorem take_yes {T : List Tok} {bp bt cap a dep : Nat} {w : World} (h : Pz T bp bt cap a dep w) (s : ByteArray) (hi : isB (tokAt T a) s.data.toList = true) :
    Calls Try.prog 33 #[.pointer (some ⟨bp, 0, none⟩), .string s] w fun e w' => e = .returned (.bool true) ∧ Kept bp w w' ∧ Pz T bp bt cap (a + 1) dep w' := by
  have hlt := step_lt h (isB_kind hi)
  have hfew := h.few
  have HI := hid hi
  clear hi
  go_enter Try.func33, Try.ntmps33
  go_wp2_with (go_at_call 43; refine (is_any h _).mono ?_; rintro e w1 ⟨rfl, hb⟩; rw [HI.out]; have hc1 := (h.below hb).c1; have hf1 := (h.below hb).f1)
  go_ret
  exact ⟨rfl, (Kept.of_below hb).set 1 _, (h.below hb).setAt hlt⟩
set_option maxRecDepth 100000 in
set_option maxHeartbeats 1000000 in
theorem take_no {T : List Tok} {bp bt cap a dep : Nat} {w : World} (h : Pz T bp bt cap a dep w) (s : ByteArray) (hi : isB (tokAt T a) s.data.toList = false) :
    Calls Try.prog 33 #[.pointer (some ⟨bp, 0, none⟩), .string s] w fun e w' => e = .returned (.bool false) ∧ Below w.heap.size w w' := by
  have HI := hid hi
  clear hi
  go_enter Try.func33, Try.ntmps33
  go_wp2_with (go_at_call 43; refine (is_any h _).mono ?_; rintro e w1 ⟨rfl, hb⟩; rw [HI.out])
  go_ret
  exact ⟨rfl, hb⟩

set_option maxRecDepth 100000 in
set_option maxHeartbeats 1000000 in
theorem need_yes {T : List Tok} {bp bt cap a dep : Nat} {w : World} (h : Pz T bp bt cap a dep w) (s : ByteArray) (hi : isB (tokAt T a) s.data.toList = true) :
    Calls Try.prog 31 #[.pointer (some ⟨bp, 0, none⟩), .string s] w fun e w' => e = .returned (.tuple #[]) ∧ Kept bp w w' ∧ Pz T bp bt cap (a + 1) dep w' := by
  go_enter Try.func31, Try.ntmps31
  go_wp2_with (go_at_call 33; refine (take_yes h _ hi).mono ?_; rintro e w1 ⟨rfl, hk, hz⟩)
  go_end0
  exact ⟨rfl, hk, hz⟩
set_option maxRecDepth 100000 in
set_option maxHeartbeats 1000000 in
theorem need_no {T : List Tok} {bp bt cap a dep : Nat} {w : World} (h : Pz T bp bt cap a dep w) (s : ByteArray) (hi : isB (tokAt T a) s.data.toList = false) :
    Calls Try.prog 31 #[.pointer (some ⟨bp, 0, none⟩), .string s] w fun e w' => e = faultE (tokAt T a).pos 4 ∧ Below w.heap.size w w' := by
  go_enter Try.func31, Try.ntmps31
  go_wp2_with (first | (go_at_call 33; refine (take_no h _ hi).mono ?_; rintro e w1 ⟨rfl, hb⟩) | (go_at_call 23; refine (fail_any (h.below hb) _).mono ?_; rintro e w2 ⟨rfl, hb2⟩))
  exact ⟨rfl, rfl, hb.trans (hb2.mono hb.size)⟩
set_option maxRecDepth 100000 in
set_option maxHeartbeats 1000000 in
theorem of_yes {T : List Tok} {bp bt cap a dep : Nat} {w : World} (h : Pz T bp bt cap a dep w) (k : Int) (hk0 : k ≠ 0) (hi : ((tokAt T a).kind != k) = false) :
    Calls Try.prog 30 #[.pointer (some ⟨bp, 0, none⟩), .int .i64 k] w fun e w' => e = .returned (.agg (tokAt T a).cells) ∧ Kept bp w w' ∧ Pz T bp bt cap (a + 1) dep w' := by
  have hkd : (tokAt T a).kind ≠ 0 := by
    have : (tokAt T a).kind = k := by simpa using hi
    rw [this]; exact hk0
  have hlt := step_lt h hkd
  have hfew := h.few
  clear hkd hk0
  have hbp := h.bp_lt
  have hbp' : bp ≠ w.heap.size := by omega
  have hbt' : bt ≠ w.heap.size := by have := h.inb; omega
  have h0 : Pz T bp bt cap a dep (w.alloc (.cells Tok.zero.cells 63)) := h.below ((Below.refl _ _).alloc (Nat.le_refl _) _)
  go_enter Try.func30, Try.ntmps30
  go_wp2_with (first | (go_at_call 22; refine (tok_any h0).mono ?_; rintro e w1 ⟨rfl, hb⟩; simp only [Tok.cells]; have hc1 := (h0.below hb).c1; have hf1 := (h0.below hb).f1; have hl1 := (h0.below hb).bp_lt) | (refine wpList_store_blk rfl 63 (.tmp 4) (.tmp 21) rfl 8 info63 w.heap.size 63 Tok.zero.cells ?_ rfl (tokAt T a).cells rfl rfl rfl rfl ?_))
  case refine_1 => exact fin_blk (((Kept.of_below hb).set 1 _).alloc _) hbp
  exact bodyPost_ret (results_cell_row rfl _ _ w.heap.size 63 _ (0, 0) _ rfl (setRow_heap (fin_blk (((Kept.of_below hb).set 1 _).alloc _) hbp) _) Try.underlying63 rfl info63) rfl ⟨rfl, fin_kept (((Kept.of_below hb).set 1 _).alloc _) hbp _, (((h0.below hb).setAt hlt).below ((Below.refl _ _).alloc (Nat.le_refl _) _)).setRow hbp' hbt' _⟩
set_option maxRecDepth 100000 in
set_option maxHeartbeats 1000000 in
theorem of_no {T : List Tok} {bp bt cap a dep : Nat} {w : World} (h : Pz T bp bt cap a dep w) (k : Int) (hi : ((tokAt T a).kind != k) = true) :
    Calls Try.prog 30 #[.pointer (some ⟨bp, 0, none⟩), .int .i64 k] w fun e w' => e = faultE (tokAt T a).pos 4 ∧ Below w.heap.size w w' := by
  have h0 : Pz T bp bt cap a dep (w.alloc (.cells Tok.zero.cells 63)) := h.below ((Below.refl _ _).alloc (Nat.le_refl _) _)
  go_enter Try.func30, Try.ntmps30
  go_wp2_with (first | (go_at_call 22; refine (tok_any h0).mono ?_; rintro e w1 ⟨rfl, hb⟩; simp only [Tok.cells]; have h1 := (h0.below hb).below ((Below.refl _ _).alloc (Nat.le_refl _) (.cells (tokAt T a).cells 63))) | (go_at_call 23; refine (fail_any h1 _).mono ?_; rintro e w2 ⟨rfl, hb2⟩))
  exact ⟨rfl, rfl, below_two hb hb2⟩
end Go.Proofs.Ytcedjjlflahpcaa
