/-
  An item in memory; the contracts of named, def, token and mapItem. (Printed by genD.py.)
-/
import Derived.Test.YtfljcfdfgojdoaaGreatDoorAa13
namespace Go.Proofs.YtfljcfdfgojdoaaGreatDoor
open Go.RowKit Go.Lib

/-- the cells of an expression, and of a map, as one thing each -/
structure Rw where
  k : Int
  x : List B
  s : Se
  ad : Option Addr
  n : Nat
  cap : Nat
  mn : Int
  mx : Int
structure Mw where
  k : Int
  r : Rw
  o : List B
  ad : Option Addr
  n : Nat
  cap : Nat
  mn : Int
  mx : Int
abbrev Rw.cs (r : Rw) : Array Value := reC r.k r.x r.s (.slice r.ad r.n r.cap) r.mn r.mx
abbrev Mw.cs (m : Mw) : Array Value := mpC m.k m.r.k m.r.x m.r.s (.slice m.r.ad m.r.n m.r.cap) m.r.mn m.r.mx m.o (.slice m.ad m.n m.cap) m.mn m.mx
abbrev Rw.zero : Rw := ⟨0, [], Se.none, none, 0, 0, 0, 0⟩
abbrev Mw.zero : Mw := ⟨0, Rw.zero, [], none, 0, 0, 0, 0⟩
/-- the forty-six cells of an item -/
def itC (k : Int) (nm : List B) (r : Rw) (m : Mw) (o b : List B) (ar : Bool) (l q : Rw) : Array Value :=
  #[.int .i64 k, .string ⟨nm.toArray⟩,
    .int .i64 r.k, .string ⟨r.x.toArray⟩, .int .u64 r.s.a, .int .u64 r.s.b, .int .u64 r.s.c, .int .u64 r.s.d, .slice r.ad r.n r.cap, .int .i64 r.mn, .int .i64 r.mx,
    .int .i64 m.k, .int .i64 m.r.k, .string ⟨m.r.x.toArray⟩, .int .u64 m.r.s.a, .int .u64 m.r.s.b, .int .u64 m.r.s.c, .int .u64 m.r.s.d, .slice m.r.ad m.r.n m.r.cap, .int .i64 m.r.mn, .int .i64 m.r.mx, .string ⟨m.o.toArray⟩, .slice m.ad m.n m.cap, .int .i64 m.mn, .int .i64 m.mx,
    .string ⟨o.toArray⟩, .string ⟨b.toArray⟩, .bool ar,
    .int .i64 l.k, .string ⟨l.x.toArray⟩, .int .u64 l.s.a, .int .u64 l.s.b, .int .u64 l.s.c, .int .u64 l.s.d, .slice l.ad l.n l.cap, .int .i64 l.mn, .int .i64 l.mx,
    .int .i64 q.k, .string ⟨q.x.toArray⟩, .int .u64 q.s.a, .int .u64 q.s.b, .int .u64 q.s.c, .int .u64 q.s.d, .slice q.ad q.n q.cap, .int .i64 q.mn, .int .i64 q.mx]
abbrev itZ : Array Value := itC 0 [] Rw.zero Mw.zero [] [] false Rw.zero Rw.zero
theorem info46 : (Tryz.prog.info? 65).map (·.size) = some 46 := by kernel_rfl
theorem info46' : (Tryz.prog.info? 65).map (fun i => (i.zero, i.size, i.bytes)) = some (some (.agg itZ), 46, 512) := by kernel_rfl
theorem ReIn.rw {F : Nat → Prop} {w : World} {r : Re} {cs : Array Value} (h : ReIn F w r cs) : ∃ y : Rw, cs = y.cs := by
  obtain ⟨k, x, s, ad, n, cap, mn, mx, e⟩ := h.cells
  exact ⟨⟨k, x, s, ad, n, cap, mn, mx⟩, e⟩
theorem MpIn.mw {F : Nat → Prop} {w : World} {r : Mp} {cs : Array Value} (h : MpIn F w r cs) : ∃ y : Mw, cs = y.cs := by
  obtain ⟨k, rk, rx, rs, ra, rl, rc, rn, rm, o, ad, n, cap, mn, mx, e⟩ := h.cells
  exact ⟨⟨k, ⟨rk, rx, rs, ra, rl, rc, rn, rm⟩, o, ad, n, cap, mn, mx⟩, e⟩
theorem zero_re (F : Nat → Prop) (w : World) : ReIn F w Re.zero Rw.zero.cs := ReIn.leaf _ _ _ _ _ _ _
theorem zero_mp (F : Nat → Prop) (w : World) : MpIn F w Mp.zero Mw.zero.cs := MpIn.leaf (zero_re F w) 0 [] 0 0
structure ItIn (F : Nat → Prop) (w : World) (x : It) (cs : Array Value) : Prop where
  ex : ∃ (r : Rw) (m : Mw) (l q : Rw), cs = itC x.kind x.name r m x.out x.by_ x.around l q ∧ ReIn F w x.re r.cs ∧ MpIn F w x.map m.cs ∧ ReIn F w x.left l.cs ∧ ReIn F w x.right q.cs
abbrev ItAt (base : Nat) : World → It → Array Value → Prop := ItIn fun g => base ≤ g
theorem ItIn.frame {F F' : Nat → Prop} {w w' : World} (hF : ∀ g, F g → g < w.heap.size → F' g) (hf : ∀ g, F g → g < w.heap.size → w'.heap[g]? = w.heap[g]?) {x : It} {cs : Array Value} (h : ItIn F w x cs) : ItIn F' w' x cs := by
  obtain ⟨r, m, l, q, e, h1, h2, h3, h4⟩ := h.ex
  exact ⟨r, m, l, q, e, h1.frame hF hf, h2.frame hF hf, h3.frame hF hf, h4.frame hF hf⟩
theorem fin_it {T : List Tok} {bp bt cap a dep : Nat} {w wx : World} {x : RX It} {r : It} {a' : Nat} {cs : Array Value} (hx : x = .ok (r, a')) (hk : Kept bp (w.alloc (.cells itZ 65)) wx) (hz : Pz T bp bt cap a' dep wx) (hbp : bp < w.heap.size) (hbt : bt < w.heap.size) (hl : a < a') (hr : ItAt (w.heap.size + 1) wx r cs) :
    XPost ItAt T bp bt cap a dep w x (.returned (.agg cs)) (wx.setRow w.heap.size cs) :=
  XPost.mk_ok hx (fin_kept hk hbp _) hl (hz.setRow (by omega) (by omega) _) rfl (hr.frame (fun g hg _ => by omega) (fun g hg _ => setRow_other cs (by omega)))
/-- a row with some of its cells turned -/
def putAt : Array Value → Nat → List Value → Array Value
  | a, _, [] => a
  | a, o, v :: r => putAt (a.setIfInBounds o v) (o + 1) r
theorem put_re (k : Int) (nm : List B) (r y : Rw) (m : Mw) (o b : List B) (ar : Bool) (l q : Rw) : putAt (itC k nm r m o b ar l q) 2 y.cs.toList = itC k nm y m o b ar l q := by kernel_rfl
theorem put_mp (k : Int) (nm : List B) (r : Rw) (m y : Mw) (o b : List B) (ar : Bool) (l q : Rw) : putAt (itC k nm r m o b ar l q) 11 y.cs.toList = itC k nm r y o b ar l q := by kernel_rfl
theorem put_l (k : Int) (nm : List B) (r : Rw) (m : Mw) (o b : List B) (ar : Bool) (l q y : Rw) : putAt (itC k nm r m o b ar l q) 28 y.cs.toList = itC k nm r m o b ar y q := by kernel_rfl
theorem put_q (k : Int) (nm : List B) (r : Rw) (m : Mw) (o b : List B) (ar : Bool) (l q y : Rw) : putAt (itC k nm r m o b ar l q) 37 y.cs.toList = itC k nm r m o b ar l y := by kernel_rfl
theorem itC_size (k : Int) (nm : List B) (r : Rw) (m : Mw) (o b : List B) (ar : Bool) (l q : Rw) : (itC k nm r m o b ar l q).size = 46 := rfl
theorem itC_one (k : Int) (nm : List B) (r : Rw) (m : Mw) (o b : List B) (ar : Bool) (l q : Rw) : (itC k nm r m o b ar l q).toList.all (·.oneCell') = true := rfl
theorem putAt_size : ∀ (vs : List Value) (a : Array Value) (o : Nat), (putAt a o vs).size = a.size
  | [], _, _ => rfl
  | v :: r, a, o => by rw [putAt, putAt_size]; simp
theorem setRow_self {w : World} {g : Nat} {old : Array Value} {t : TypeId} (hg : w.heap[g]? = some (.cells old t (0, 0))) : w = w.setRow g old := by
  obtain ⟨hl, hg'⟩ := Array.getElem?_eq_some_iff.1 hg
  cases w with
  | mk heap tape drawn os output =>
    unfold World.setRow
    congr 1
    apply Array.ext
    · simp
    · intro k h1 h2
      simp only [Array.getElem_modify]
      split
      · rename_i e
        subst e
        simp only at hg'
        rw [hg']
      · rfl
theorem setCells_blk {g : Nat} {t : TypeId} : ∀ (vs : List Value) (o : Nat) (w : World) (old : Array Value), w.heap[g]? = some (.cells old t (0, 0)) → w.setCells g o vs = w.setRow g (putAt old o vs)
  | [], o, w, old, h => setRow_self h
  | v :: r, o, w, old, h => by
    have h1 : (w.setRow g (old.setIfInBounds o v)).heap[g]? = some (.cells (old.setIfInBounds o v) t (0, 0)) := setRow_heap h _
    rw [World.setCells, setCell_eq_setRow w g o old t (0, 0) v h, setCells_blk r (o + 1) _ _ h1, setRow_setRow]
    rfl
theorem there_blk {w : World} {g : Nat} {t : TypeId} {old : Array Value} (h : w.heap[g]? = some (.cells old t (0, 0))) {o n : Nat} (hn : o + n ≤ old.size) : w.there g o n := fun j hj => by
  constructor
  · have : w.cell? ⟨g, o + j, none⟩ = some (old[o + j]'(by omega)) := cell_of_row _ _ (o + j) _ _ _ h |>.trans (by simp [show o + j < old.size by omega])
    rw [this]; rfl
  · exact frozen_of_row _ _ _ _ _ h
/-- a store of a struct into a part of a block that is known whole -/
theorem wpList_store_at {P : Program} {ops : Array Oper} {rest : List Oper} {o : Oper} {a : Act} {w : World} {Q : Exit → Act → World → Prop} (hgd : o.guard = none) (ty : TypeId) (x y : Operand) (ho : o.op = .store ty x y)
    (n : Nat) (hi : (P.info? ty).map (·.size) = some n) (g : Nat) (t : TypeId) (old : Array Value) (hg : w.heap[g]? = some (.cells old t (0, 0))) (off : Nat) (hold : off + n ≤ old.size)
    (cells : Array Value) (hx : a.eval x = .pointer (some ⟨g, off, none⟩)) (hy : a.eval y = .agg cells) (hn : cells.size = n) (h1 : cells.toList.all (·.oneCell') = true)
    (new : Array Value) (hnew : putAt old off cells.toList = new)
    (h : wpList P ops Q rest (a.put o.dst undef) (w.setRow g new)) : wpList P ops Q (o :: rest) a w := by
  subst hn
  subst hnew
  refine wpList_store_mid hgd ty x y ho g off cells hx hy (there_blk hg hold) hi (by rw [← Array.all_toList]; exact h1) ?_
  rw [setCells_blk _ _ _ _ hg]
  exact h
theorem Kept.setRow {bp g : Nat} {a w : World} (h : Kept bp a w) (hg : a.heap.size ≤ g) (cs : Array Value) : Kept bp a (w.setRow g cs) :=
  ⟨h.os, h.tape, h.output, by rw [size_setRow]; exact h.size, fun k hk hne => (setRow_other cs (by omega)).trans (h.block k hk hne)⟩

/-- a whole struct goes into the block that was made just now -/
theorem alloc_setRow (w : World) (old cs : Array Value) (t : TypeId) : (w.alloc (.cells old t)).setRow w.heap.size cs = w.alloc (.cells cs t) := by
  cases w with
  | mk heap tape drawn os output =>
    unfold World.setRow World.alloc
    congr 1
    apply Array.ext
    · simp
    · intro k h1 h2
      simp only [Array.getElem_modify, Array.getElem_push]
      split
      · rename_i e
        subst e
        simp
      · rename_i e
        have hk : k < heap.size := by simp at h2; omega
        simp [hk]
theorem wpList_store_new {P : Program} {ops : Array Oper} {rest : List Oper} {o : Oper} {a : Act} {w : World} {Q : Exit → Act → World → Prop} (hgd : o.guard = none) (ty : TypeId) (x y : Operand) (ho : o.op = .store ty x y)
    (n : Nat) (hi : (P.info? ty).map (·.size) = some n) (t : TypeId) (old : Array Value) (hold : old.size = n)
    (cells : Array Value) (hx : a.eval x = .pointer (some ⟨w.heap.size, 0, none⟩)) (hy : a.eval y = .agg cells) (hn : cells.size = n) (h1 : cells.toList.all (·.oneCell') = true)
    (h : wpList P ops Q rest (a.put o.dst undef) (w.alloc (.cells cells t))) : wpList P ops Q (o :: rest) a (w.alloc (.cells old t)) :=
  wpList_store_blk hgd ty x y ho n hi w.heap.size t old (heap_alloc_new _ _) hold cells hx hy hn h1 (by rw [alloc_setRow]; exact h)

/-- what name leaves -/
def NamePost (T : List Tok) (bp bt cap a dep : Nat) (w : World) (x : RX (List B)) (e : Ending) (w' : World) : Prop :=
  Kept bp w w' ∧ match x with
  | .ok (s, a') => a < a' ∧ e = .returned (.string ⟨s.toArray⟩) ∧ Pz T bp bt cap a' dep w'
  | .error (p, y) => e = faultE p y
theorem NamePost.bad {T : List Tok} {bp bt cap a dep : Nat} {w w' : World} {e : Ending} {x : RX (List B)} {p y : Int} (h : NamePost T bp bt cap a dep w x e w') (hx : x = .error (p, y)) : Kept bp w w' ∧ e = faultE p y := by
  subst hx; exact h
theorem NamePost.good {T : List Tok} {bp bt cap a dep : Nat} {w w' : World} {e : Ending} {x : RX (List B)} {s : List B} {a' : Nat} (h : NamePost T bp bt cap a dep w x e w') (hx : x = .ok (s, a')) :
    Kept bp w w' ∧ a < a' ∧ e = .returned (.string ⟨s.toArray⟩) ∧ Pz T bp bt cap a' dep w' := by
  subst hx; exact h
theorem pname_any {T : List Tok} {bp bt cap a dep : Nat} {w : World} (h : Pz T bp bt cap a dep w) :
    Calls Tryz.prog 181 #[.pointer (some ⟨bp, 0, none⟩)] w (NamePost T bp bt cap a dep w (nameM T a)) := by
  cases h1 : reservedB (tokAt T a).text
  · cases h2 : ((tokAt T a).kind != 1)
    · refine (name_yes h h1 h2).mono ?_
      rintro e w' ⟨rfl, hk, hz⟩
      have : nameM T a = .ok ((tokAt T a).text, a + 1) := by simp only [nameM, h1, h2, Bool.false_eq_true, if_false]
      rw [this]
      exact ⟨hk, Nat.lt_succ_self _, rfl, hz⟩
    · refine (name_no2 h h1 h2).mono ?_
      rintro e w' ⟨rfl, hb⟩
      have : nameM T a = .error ((tokAt T a).pos, 4) := by simp only [nameM, h1, h2, Bool.false_eq_true, if_false, if_true]
      rw [this]
      exact ⟨Kept.of_below hb, rfl⟩
  · refine (name_no1 h h1).mono ?_
    rintro e w' ⟨rfl, hb⟩
    have : nameM T a = .error ((tokAt T a).pos, 4) := by simp only [nameM, h1, if_true]
    rw [this]
    exact ⟨Kept.of_below hb, rfl⟩

set_option maxRecDepth 100000 in
set_option maxHeartbeats 4000000 in
theorem named_any {T : List Tok} {bp bt cap a dep : Nat} {w : World} (kind : Int) (h : Pz T bp bt cap a dep w) :
    Calls Tryz.prog 180 #[.pointer (some ⟨bp, 0, none⟩), .int .i64 kind] w (XPost ItAt T bp bt cap a dep w (namedM kind T a dep)) := by
  have hbp := h.bp_lt
  have hbt := h.inb
  have h0 : Pz T bp bt cap a dep (w.alloc (.cells itZ 65)) := h.below ((Below.refl _ _).alloc (Nat.le_refl _) _)
  rcases hx : nameM T a with ⟨p, y⟩ | ⟨nm, a1⟩
  · have hm := hid (show namedM kind T a dep = .error (p, y) by simp only [namedM, hx])
    have HX := hid hx
    clear hx
    go_enter Tryz.func180, Tryz.ntmps180
    go_wp2_with (go_at_call 181; refine (pname_any h0).mono ?_; rintro e w1 hp; obtain ⟨hk1, rfl⟩ := hp.bad HX.out)
    exact ⟨rfl, XPost.mk_bad hm.out (((Kept.refl bp w).alloc _).trans hk1) rfl⟩
  · have HX := hid hx
    cases hc : isB (tokAt T a1) [61]
    · have hm := hid (show namedM kind T a dep = .error ((tokAt T a1).pos, 4) by simp only [namedM, hx, hc, Bool.false_eq_true, if_false])
      clear hx
      go_enter Tryz.func180, Tryz.ntmps180
      go_wp2_with (first | (go_at_call 181; refine (pname_any h0).mono ?_; rintro e w1 hp; obtain ⟨hk1, hl1, rfl, hz1⟩ := hp.good HX.out; have hb1 := hz1.bp_lt; have ht1 := hz1.inb) | (refine wpList_store_new rfl 65 (.tmp 5) (.tmp 9) rfl 46 info46 65 itZ rfl (itC kind nm Rw.zero Mw.zero [] [] false Rw.zero Rw.zero) rfl rfl rfl rfl ?_) | (go_at_call 123; refine (need_no (hz1.below ((Below.refl _ _).alloc (Nat.le_refl _) _)) _ hc).mono ?_; rintro e w2 ⟨rfl, hb2⟩))
      exact ⟨rfl, XPost.mk_bad hm.out (((Kept.refl bp w).alloc _).trans (hk1.trans (((Kept.refl bp w1).alloc _).trans (Kept.of_below hb2)))) rfl⟩
    · rcases hy : altM notNone T 33 (a1 + 1) dep with ⟨p, y⟩ | ⟨r, a2⟩
      · have hm := hid (show namedM kind T a dep = .error (p, y) by simp only [namedM, hx, hc, hy, if_true])
        have HY := hid hy
        clear hx hy
        go_enter Tryz.func180, Tryz.ntmps180
        go_wp2_with (first | (go_at_call 181; refine (pname_any h0).mono ?_; rintro e w1 hp; obtain ⟨hk1, hl1, rfl, hz1⟩ := hp.good HX.out; have hb1 := hz1.bp_lt; have ht1 := hz1.inb) | (refine wpList_store_new rfl 65 (.tmp 5) (.tmp 9) rfl 46 info46 65 itZ rfl (itC kind nm Rw.zero Mw.zero [] [] false Rw.zero Rw.zero) rfl rfl rfl rfl ?_) | (go_at_call 123; refine (need_yes (hz1.below ((Below.refl _ _).alloc (Nat.le_refl _) _)) _ hc).mono ?_; rintro e w2 ⟨rfl, hk2, hz2⟩) | (go_at_call 52; refine ((alt_all T 33).go (by omega) hz2).mono ?_; rintro e w3 hp; obtain ⟨hk3, rfl⟩ := hp.bad HY.out))
        exact ⟨rfl, XPost.mk_bad hm.out (((Kept.refl bp w).alloc _).trans (hk1.trans (((Kept.refl bp w1).alloc _).trans (hk2.trans hk3)))) rfl⟩
      · have hm := hid (show namedM kind T a dep = .ok (_, a2) by simp only [namedM, hx, hc, hy, if_true]; rfl)
        have HY := hid hy
        clear hx hy
        go_enter Tryz.func180, Tryz.ntmps180
        go_wp2_with (first | (go_at_call 181; refine (pname_any h0).mono ?_; rintro e w1 hp; obtain ⟨hk1, hl1, rfl, hz1⟩ := hp.good HX.out; have hb1 := hz1.bp_lt; have ht1 := hz1.inb) | (refine wpList_store_new rfl 65 (.tmp 5) (.tmp 9) rfl 46 info46 65 itZ rfl (itC kind nm Rw.zero Mw.zero [] [] false Rw.zero Rw.zero) rfl rfl rfl rfl ?_) | (go_at_call 123; refine (need_yes (hz1.below ((Below.refl _ _).alloc (Nat.le_refl _) _)) _ hc).mono ?_; rintro e w2 ⟨rfl, hk2, hz2⟩) | (go_at_call 52; refine ((alt_all T 33).go (by omega) hz2).mono ?_; rintro e w3 hp; obtain ⟨hk3, hl3, hz3, cs, rfl, hr⟩ := hp.good HY.out; obtain ⟨y, rfl⟩ := hr.rw; have HB3 := hid (fin_blk (hk2.trans hk3) hb1)) | (refine wpList_store_at rfl 33 (.tmp 14) (.tmp 13) rfl 9 info27 w1.heap.size 65 (itC kind nm Rw.zero Mw.zero [] [] false Rw.zero Rw.zero) HB3.out 2 (by rw [itC_size]; decide) y.cs rfl rfl rfl rfl (itC kind nm y Mw.zero [] [] false Rw.zero Rw.zero) (put_re _ _ _ _ _ _ _ _ _ _) ?_) | (refine wpList_load_blk rfl 65 (.tmp 5) rfl 46 info46 _ Tryz.underlying65 rfl w1.heap.size rfl 65 (itC kind nm y Mw.zero [] [] false Rw.zero Rw.zero) (setRow_heap HB3.out _) rfl ?_) | (refine wpList_store_blk rfl 65 (.tmp 4) (.tmp 15) rfl 46 info46 w.heap.size 65 itZ ?hg rfl (itC kind nm y Mw.zero [] [] false Rw.zero Rw.zero) rfl rfl rfl rfl ?_))
        case hg => exact fin_blk (((hk1.trans (((Kept.refl bp w1).alloc _).trans (hk2.trans hk3))).setRow (by have := hk1.size; simp at *; omega) _)) hbp
        refine bodyPost_ret (results_cell_row rfl _ _ w.heap.size 65 (itC kind nm y Mw.zero [] [] false Rw.zero Rw.zero) (0, 0) _ rfl (setRow_heap (fin_blk (((hk1.trans (((Kept.refl bp w1).alloc _).trans (hk2.trans hk3))).setRow (by have := hk1.size; simp at *; omega) _)) hbp) _) Tryz.underlying65 rfl info46) rfl ?_
        exact fin_it hm.out (((hk1.trans (((Kept.refl bp w1).alloc _).trans (hk2.trans hk3))).setRow (by have := hk1.size; simp at *; omega) _)) (hz3.setRow (by omega) (by omega) _) hbp hbt (by omega) ⟨_, _, _, _, rfl, hr.frame (fun g hg _ => by have := hk2.size; have := hk1.size; simp at *; omega) (fun g hg _ => setRow_other _ (by have := hk2.size; simp at this; omega)), zero_mp _ _, zero_re _ _, zero_re _ _⟩

set_option maxRecDepth 100000 in
set_option maxHeartbeats 4000000 in
theorem mapItem_any {T : List Tok} {bp bt cap a dep : Nat} {w : World} (h : Pz T bp bt cap a dep w) :
    Calls Tryz.prog 152 #[.pointer (some ⟨bp, 0, none⟩)] w (XPost ItAt T bp bt cap a dep w (mapItemM T a dep)) := by
  have hbp := h.bp_lt
  have hbt := h.inb
  have h0 : Pz T bp bt cap a dep (w.alloc (.cells itZ 65)) := h.below ((Below.refl _ _).alloc (Nat.le_refl _) _)
  rcases hx : nameM T a with ⟨p, y⟩ | ⟨nm, a1⟩
  · have hm := hid (show mapItemM T a dep = .error (p, y) by simp only [mapItemM, hx])
    have HX := hid hx
    clear hx
    go_enter Tryz.func152, Tryz.ntmps152
    go_wp2_with (go_at_call 181; refine (pname_any h0).mono ?_; rintro e w1 hp; obtain ⟨hk1, rfl⟩ := hp.bad HX.out)
    exact ⟨rfl, XPost.mk_bad hm.out (((Kept.refl bp w).alloc _).trans hk1) rfl⟩
  · have HX := hid hx
    cases hc : isB (tokAt T a1) [61]
    · have hm := hid (show mapItemM T a dep = .error ((tokAt T a1).pos, 4) by simp only [mapItemM, hx, hc, Bool.false_eq_true, if_false])
      clear hx
      go_enter Tryz.func152, Tryz.ntmps152
      go_wp2_with (first | (go_at_call 181; refine (pname_any h0).mono ?_; rintro e w1 hp; obtain ⟨hk1, hl1, rfl, hz1⟩ := hp.good HX.out; have hb1 := hz1.bp_lt; have ht1 := hz1.inb) | (refine wpList_store_new rfl 65 (.tmp 3) (.tmp 6) rfl 46 info46 65 itZ rfl (itC 2 nm Rw.zero Mw.zero [] [] false Rw.zero Rw.zero) rfl rfl rfl rfl ?_) | (go_at_call 123; refine (need_no (hz1.below ((Below.refl _ _).alloc (Nat.le_refl _) _)) _ hc).mono ?_; rintro e w2 ⟨rfl, hb2⟩))
      exact ⟨rfl, XPost.mk_bad hm.out (((Kept.refl bp w).alloc _).trans (hk1.trans (((Kept.refl bp w1).alloc _).trans (Kept.of_below hb2)))) rfl⟩
    · rcases hy : mAltM T 33 (a1 + 1) dep with ⟨p, y⟩ | ⟨r, a2⟩
      · have hm := hid (show mapItemM T a dep = .error (p, y) by simp only [mapItemM, hx, hc, hy, if_true])
        have HY := hid hy
        clear hx hy
        go_enter Tryz.func152, Tryz.ntmps152
        go_wp2_with (first | (go_at_call 181; refine (pname_any h0).mono ?_; rintro e w1 hp; obtain ⟨hk1, hl1, rfl, hz1⟩ := hp.good HX.out; have hb1 := hz1.bp_lt; have ht1 := hz1.inb) | (refine wpList_store_new rfl 65 (.tmp 3) (.tmp 6) rfl 46 info46 65 itZ rfl (itC 2 nm Rw.zero Mw.zero [] [] false Rw.zero Rw.zero) rfl rfl rfl rfl ?_) | (go_at_call 123; refine (need_yes (hz1.below ((Below.refl _ _).alloc (Nat.le_refl _) _)) _ hc).mono ?_; rintro e w2 ⟨rfl, hk2, hz2⟩) | (go_at_call 58; refine ((map_all T 33).go (by omega) hz2).mono ?_; rintro e w3 hp; obtain ⟨hk3, rfl⟩ := hp.bad HY.out))
        exact ⟨rfl, XPost.mk_bad hm.out (((Kept.refl bp w).alloc _).trans (hk1.trans (((Kept.refl bp w1).alloc _).trans (hk2.trans hk3)))) rfl⟩
      · have hm := hid (show mapItemM T a dep = .ok (_, a2) by simp only [mapItemM, hx, hc, hy, if_true]; rfl)
        have HY := hid hy
        clear hx hy
        go_enter Tryz.func152, Tryz.ntmps152
        go_wp2_with (first | (go_at_call 181; refine (pname_any h0).mono ?_; rintro e w1 hp; obtain ⟨hk1, hl1, rfl, hz1⟩ := hp.good HX.out; have hb1 := hz1.bp_lt; have ht1 := hz1.inb) | (refine wpList_store_new rfl 65 (.tmp 3) (.tmp 6) rfl 46 info46 65 itZ rfl (itC 2 nm Rw.zero Mw.zero [] [] false Rw.zero Rw.zero) rfl rfl rfl rfl ?_) | (go_at_call 123; refine (need_yes (hz1.below ((Below.refl _ _).alloc (Nat.le_refl _) _)) _ hc).mono ?_; rintro e w2 ⟨rfl, hk2, hz2⟩) | (go_at_call 58; refine ((map_all T 33).go (by omega) hz2).mono ?_; rintro e w3 hp; obtain ⟨hk3, hl3, hz3, cs, rfl, hr⟩ := hp.good HY.out; obtain ⟨y, rfl⟩ := hr.mw; have HB3 := hid (fin_blk (hk2.trans hk3) hb1)) | (refine wpList_store_at rfl 36 (.tmp 11) (.tmp 10) rfl 14 info44 w1.heap.size 65 (itC 2 nm Rw.zero Mw.zero [] [] false Rw.zero Rw.zero) HB3.out 11 (by rw [itC_size]; decide) y.cs rfl rfl rfl rfl (itC 2 nm Rw.zero y [] [] false Rw.zero Rw.zero) (put_mp _ _ _ _ _ _ _ _ _ _) ?_) | (refine wpList_load_blk rfl 65 (.tmp 3) rfl 46 info46 _ Tryz.underlying65 rfl w1.heap.size rfl 65 (itC 2 nm Rw.zero y [] [] false Rw.zero Rw.zero) (setRow_heap HB3.out _) rfl ?_) | (refine wpList_store_blk rfl 65 (.tmp 2) (.tmp 12) rfl 46 info46 w.heap.size 65 itZ ?hg rfl (itC 2 nm Rw.zero y [] [] false Rw.zero Rw.zero) rfl rfl rfl rfl ?_))
        case hg => exact fin_blk (((hk1.trans (((Kept.refl bp w1).alloc _).trans (hk2.trans hk3))).setRow (by have := hk1.size; simp at *; omega) _)) hbp
        refine bodyPost_ret (results_cell_row rfl _ _ w.heap.size 65 (itC 2 nm Rw.zero y [] [] false Rw.zero Rw.zero) (0, 0) _ rfl (setRow_heap (fin_blk (((hk1.trans (((Kept.refl bp w1).alloc _).trans (hk2.trans hk3))).setRow (by have := hk1.size; simp at *; omega) _)) hbp) _) Tryz.underlying65 rfl info46) rfl ?_
        exact fin_it hm.out (((hk1.trans (((Kept.refl bp w1).alloc _).trans (hk2.trans hk3))).setRow (by have := hk1.size; simp at *; omega) _)) (hz3.setRow (by omega) (by omega) _) hbp hbt (by omega) ⟨_, _, _, _, rfl, zero_re _ _, hr.frame (fun g hg _ => by have := hk2.size; have := hk1.size; simp at *; omega) (fun g hg _ => setRow_other _ (by have := hk2.size; simp at this; omega)), zero_re _ _, zero_re _ _⟩

set_option maxRecDepth 100000 in
set_option maxHeartbeats 2000000 in
theorem pdef_any {T : List Tok} {bp bt cap a dep : Nat} {w : World} (h : Pz T bp bt cap a dep w) :
    Calls Tryz.prog 151 #[.pointer (some ⟨bp, 0, none⟩)] w (XPost ItAt T bp bt cap a dep w (namedM 1 T a dep)) := by
  have hbp := h.bp_lt
  have hbt := h.inb
  have h0 : Pz T bp bt cap a dep (w.alloc (.cells itZ 65)) := h.below ((Below.refl _ _).alloc (Nat.le_refl _) _)
  rcases hx : namedM 1 T a dep with ⟨p, y⟩ | ⟨x, a1⟩
  · have HX := hid hx
    clear hx
    go_enter Tryz.func151, Tryz.ntmps151
    go_wp2_with (go_at_call 180; refine (named_any 1 h0).mono ?_; rintro e w1 hp; obtain ⟨hk1, rfl⟩ := hp.bad HX.out)
    exact ⟨rfl, XPost.mk_bad rfl (((Kept.refl bp w).alloc _).trans hk1) rfl⟩
  · have HX := hid hx
    clear hx
    go_enter Tryz.func151, Tryz.ntmps151
    go_wp2_with (first | (go_at_call 180; refine (named_any 1 h0).mono ?_; rintro e w1 hp; obtain ⟨hk1, hl1, hz1, cs, rfl, hr⟩ := hp.good HX.out; obtain ⟨r, m, l, q, rfl, i1, i2, i3, i4⟩ := hr.ex) | (refine wpList_store_blk rfl 65 (.tmp 2) (.tmp 4) rfl 46 info46 w.heap.size 65 itZ ?hg rfl (itC x.kind x.name r m x.out x.by_ x.around l q) rfl rfl rfl rfl ?_))
    case hg => exact fin_blk hk1 hbp
    refine bodyPost_ret (results_cell_row rfl _ _ w.heap.size 65 (itC x.kind x.name r m x.out x.by_ x.around l q) (0, 0) _ rfl (setRow_heap (fin_blk hk1 hbp) _) Tryz.underlying65 rfl info46) rfl ?_
    exact fin_it rfl hk1 hz1 hbp hbt hl1 (hr.frame (fun g hg _ => by simp at hg; omega) (fun _ _ _ => rfl))

set_option maxRecDepth 100000 in
set_option maxHeartbeats 2000000 in
theorem ptoken_any {T : List Tok} {bp bt cap a dep : Nat} {w : World} (h : Pz T bp bt cap a dep w) :
    Calls Tryz.prog 154 #[.pointer (some ⟨bp, 0, none⟩)] w (XPost ItAt T bp bt cap a dep w (namedM 4 T a dep)) := by
  have hbp := h.bp_lt
  have hbt := h.inb
  have h0 : Pz T bp bt cap a dep (w.alloc (.cells itZ 65)) := h.below ((Below.refl _ _).alloc (Nat.le_refl _) _)
  rcases hx : namedM 4 T a dep with ⟨p, y⟩ | ⟨x, a1⟩
  · have HX := hid hx
    clear hx
    go_enter Tryz.func154, Tryz.ntmps154
    go_wp2_with (go_at_call 180; refine (named_any 4 h0).mono ?_; rintro e w1 hp; obtain ⟨hk1, rfl⟩ := hp.bad HX.out)
    exact ⟨rfl, XPost.mk_bad rfl (((Kept.refl bp w).alloc _).trans hk1) rfl⟩
  · have HX := hid hx
    clear hx
    go_enter Tryz.func154, Tryz.ntmps154
    go_wp2_with (first | (go_at_call 180; refine (named_any 4 h0).mono ?_; rintro e w1 hp; obtain ⟨hk1, hl1, hz1, cs, rfl, hr⟩ := hp.good HX.out; obtain ⟨r, m, l, q, rfl, i1, i2, i3, i4⟩ := hr.ex) | (refine wpList_store_blk rfl 65 (.tmp 2) (.tmp 4) rfl 46 info46 w.heap.size 65 itZ ?hg rfl (itC x.kind x.name r m x.out x.by_ x.around l q) rfl rfl rfl rfl ?_))
    case hg => exact fin_blk hk1 hbp
    refine bodyPost_ret (results_cell_row rfl _ _ w.heap.size 65 (itC x.kind x.name r m x.out x.by_ x.around l q) (0, 0) _ rfl (setRow_heap (fin_blk hk1 hbp) _) Tryz.underlying65 rfl info46) rfl ?_
    exact fin_it rfl hk1 hz1 hbp hbt hl1 (hr.frame (fun g hg _ => by simp at hg; omega) (fun _ _ _ => rfl))

end Go.Proofs.YtfljcfdfgojdoaaGreatDoor
