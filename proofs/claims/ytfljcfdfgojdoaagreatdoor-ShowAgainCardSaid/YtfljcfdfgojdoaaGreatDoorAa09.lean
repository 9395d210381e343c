/-
  read where the lexer finds none: the contract, for a text of no more than 65536 bytes.
  The contract of parse.Re: it hands back what the plain function parseRe says, for a text of no more than 65536 bytes.
  What package parse computes out of tokens at maps, at items and at a file, as plain functions; no program in sight.
-/
import Derived.Test.YtfljcfdfgojdoaaGreatDoorAa08
namespace Go.Proofs.YtfljcfdfgojdoaaGreatDoor
open Go.RowKit Go.Lib

theorem tokCells_at : ∀ {T : List Tok} {i : Nat} {t : Tok}, T[i]? = some t → ∀ j v, t.cells.toList[j]? = some v → (tokCells T)[i * 8 + j]? = some v
  | t0 :: T, 0, t, h, j, v, hv => by
    simp at h; subst h
    have hj : j < t0.cells.toList.length := (List.getElem?_eq_some_iff.1 hv).1
    simp only [tokCells, List.flatMap_cons, Nat.zero_mul, Nat.zero_add]
    rw [List.getElem?_append_left hj]; exact hv
  | t0 :: T, i + 1, t, h, j, v, hv => by
    have ih := tokCells_at (T := T) (i := i) (t := t) (by simpa using h) j v hv
    have h8 : t0.cells.toList.length = 8 := rfl
    have e : (i + 1) * 8 + j = t0.cells.toList.length + (i * 8 + j) := by rw [h8]; omega
    rw [e]
    simp only [tokCells, List.flatMap_cons]
    rw [List.getElem?_append_right (Nat.le_add_right _ _), Nat.add_sub_cancel_left]
    exact ih
  | [], i, t, h, _, _, _ => by simp at h
abbrev endC (s : ByteArray) : Array Value := #[.int .i64 0, .string ⟨#[]⟩, .int .u64 0, .int .u64 0, .int .u64 0, .int .u64 0, .int .i64 0, .int .i64 s.size]
theorem Pz.start {s : ByteArray} {l : List Tok} {w5 : World} {base g cap : Nat} (ho : w5.ownsRow base 139 8 (.slice (some ⟨g, 0, none⟩) (l.length + 1) cap) (l.length + 1) (tokCells l ++ (endC s).toList)) (hlen : l.length ≤ 65536) :
    Pz (toksOf s l) w5.heap.size g cap 0 0 (w5.alloc (.cells #[.slice (some ⟨g, 0, none⟩) (l.length + 1) cap, .int .i64 0, .int .i64 0] 141)) := by
  have hT : (toksOf s l).length = l.length + 1 := by simp [toksOf]
  have hg : g < w5.heap.size := by
    rcases ownsRow_exist ho (g := g) rfl with h | h
    · exact h
    · omega
  have hc := ho.cells (g := g) rfl
  have he : tokCells l ++ (endTok s).cells.toList = tokCells (toksOf s l) := (tokCells_snoc l (endTok s)).symm
  rw [show (endC s).toList = (endTok s).cells.toList from rfl, he] at hc
  refine ⟨?_, ?_, by omega, by simp; omega, by omega, ?_, by omega, by omega⟩
  · rw [hT]
    exact heap_alloc_new _ _
  · intro i t ht j v hv
    have h1 := hc _ _ (tokCells_at ht j v hv)
    have hadd : (⟨g, 0, none⟩ : Addr).add (i * 8 + j) = ⟨g, i * 8 + j, none⟩ := by unfold Addr.add; split <;> simp_all
    rw [hadd] at h1
    rw [World.cell?_of_block (w := w5) (alloc_old hg)]
    exact h1
  · intro i t ht hk
    rw [hT]
    have hi : i < (toksOf s l).length := (List.getElem?_eq_some_iff.1 ht).1
    by_cases hil : i = l.length
    · subst hil
      simp [toksOf] at ht
      subst ht
      exact absurd rfl hk
    · omega

theorem Below.row {n g : Nat} {w w8 : World} (h : Below n w w8) (hg : n ≤ g) (cs : Array Value) : Below n w (w8.setRow g cs) :=
  ⟨h.os, h.tape, h.output, by simpa using h.size, fun k hk => (setRow_other cs (by omega)).trans (h.block k hk)⟩
theorem two_size (w1 : World) (a1 a2 : Addr) (x y : Value) : ((w1.setCell a1 x).setCell a2 y).heap.size = w1.heap.size := by simp [World.setCell]
theorem two_new (w1 : World) (a1 a2 : Addr) (x y : Value) (o : Obj) : (((w1.setCell a1 x).setCell a2 y).alloc o).heap[w1.heap.size]? = some o := by
  have h := heap_alloc_new ((w1.setCell a1 x).setCell a2 y) o
  rw [two_size] at h
  exact h
abbrev catchD (n : Nat) : Deferred := { target := .fn (.func 105) #[.pointer (some ⟨n, 0, none⟩), .pointer (some ⟨n + 1, 0, none⟩), .pointer (some ⟨n + 1 + 1, 0, none⟩)], args := #[] }
theorem leaves_caught (s : ByteArray) (w w7 : World) {X : Except (Int × Int) Re} (x0 x1 x2 x3 x4 x5 x6 x7 x8 v1 v2 : Value) (p y : Int) (hX : X = .error (p, y)) (tmps : Array Value) (t4 : tmps.getD 4 undef = .pointer (some ⟨w.heap.size, 0, none⟩)) (t5 : tmps.getD 5 undef = .pointer (some ⟨w.heap.size + 1, 0, none⟩)) (t6 : tmps.getD 6 undef = .pointer (some ⟨w.heap.size + 1 + 1, 0, none⟩))
    (hb : Below w.heap.size w w7) (h0 : w7.heap[w.heap.size]? = some (.cells #[x0, x1, x2, x3, x4, x5, x6, x7, x8] 33 (0, 0))) (h1 : w7.heap[w.heap.size + 1]? = some (.cells #[v1] 3 (0, 0))) (h2 : w7.heap[w.heap.size + 1 + 1]? = some (.cells #[v2] 24 (0, 0))) :
    Leaves Tryz.prog Tryz.f51 tmps (ReadPost s w X) [catchD w.heap.size] (.panicking [{ v := .iface 143 (.agg #[.int .i64 p, .int .i64 y]), recovered := false }]) w7 := by
  subst hX
  refine leaves_cons (f := 105) (args := #[.pointer (some ⟨w.heap.size, 0, none⟩), .pointer (some ⟨w.heap.size + 1, 0, none⟩), .pointer (some ⟨w.heap.size + 1 + 1, 0, none⟩)]) (by simp) (by simp [go_sem]) ?_
  refine (catch_panicking w.heap.size (w.heap.size + 1) (w.heap.size + 1 + 1) x0 x1 x2 x3 x4 x5 x6 x7 x8 v1 v2 p y [] w7 h0 h1 h2 (by omega) (by omega)).mono ?_
  rintro e u' w'' ⟨rfl, rfl, hb', b0', b1', b2'⟩
  exact ⟨_, results_ccc rfl tmps w'' w.heap.size (w.heap.size + 1) (w.heap.size + 1 + 1) 33 3 24 reZ (0, 0) (.int .i64 p) (.int .i64 y) t4 b0' rfl t5 b1' t6 b2', hb.trans hb', rfl⟩
theorem leaves_idle (s : ByteArray) (w w7 : World) {X : Except (Int × Int) Re} (r : Re) (hX : X = .ok r) (cs : Array Value) (tmps : Array Value) (t4 : tmps.getD 4 undef = .pointer (some ⟨w.heap.size, 0, none⟩)) (t5 : tmps.getD 5 undef = .pointer (some ⟨w.heap.size + 1, 0, none⟩)) (t6 : tmps.getD 6 undef = .pointer (some ⟨w.heap.size + 1 + 1, 0, none⟩))
    (hb : Below w.heap.size w w7) (hc : cs.size = 9) (h0 : w7.heap[w.heap.size]? = some (.cells cs 33 (0, 0))) (h1 : w7.heap[w.heap.size + 1]? = some (.cells #[.int .i64 s.size] 3 (0, 0))) (h2 : w7.heap[w.heap.size + 1 + 1]? = some (.cells #[.int .i64 0] 24 (0, 0))) (hr : ReAt w.heap.size w7 r cs) :
    Leaves Tryz.prog Tryz.f51 tmps (ReadPost s w X) [catchD w.heap.size] .returning w7 := by
  subst hX
  refine leaves_cons (f := 105) (args := #[.pointer (some ⟨w.heap.size, 0, none⟩), .pointer (some ⟨w.heap.size + 1, 0, none⟩), .pointer (some ⟨w.heap.size + 1 + 1, 0, none⟩)]) (by simp) (by simp [go_sem]) ?_
  refine (catch_idle _ _ _ w7).mono ?_
  rintro e u' w'' ⟨rfl, rfl, rfl⟩
  exact ⟨_, results_ccc rfl tmps w'' w.heap.size (w.heap.size + 1) (w.heap.size + 1 + 1) 33 3 24 cs (0, 0) (.int .i64 s.size) (.int .i64 0) t4 h0 hc t5 h1 t6 h2, hb, cs, rfl, hr⟩
theorem closeM_bad (T : List Tok) {x : R} {p y : Int} (h : x = .error (p, y)) : closeM T x = .error (p, y) := by rw [h]; rfl
theorem closeM_end (T : List Tok) {x : R} {r : Re} {a : Nat} (h : x = .ok (r, a)) (hk : ((tokAt T a).kind != 0) = true) : closeM T x = .error ((tokAt T a).pos, 4) := by
  rw [h]; unfold closeM; simp only; rw [if_pos (by simpa using hk)]
theorem closeM_ok (T : List Tok) {x : R} {r : Re} {a : Nat} (h : x = .ok (r, a)) (hk : ((tokAt T a).kind != 0) = false) : closeM T x = .ok r := by
  rw [h]; unfold closeM; simp only; rw [if_neg (by simpa using hk)]
theorem below_of_kept {w w6 w7 : World} {bp : Nat} (h : Below w.heap.size w w6) (hk : Kept bp w6 w7) (hb : w.heap.size ≤ bp) : Below w.heap.size w w7 :=
  ⟨hk.os.trans h.os, hk.tape.trans h.tape, hk.output.trans h.output, Nat.le_trans h.size hk.size, fun k hl => (hk.block k (Nat.lt_of_lt_of_le hl h.size) (fun e => by have := Option.some.inj e; omega)).trans (h.block k hl)⟩
set_option maxRecDepth 100000 in
set_option maxHeartbeats 1000000 in
theorem readRe_ok (s : ByteArray) (w : World) (hs : s.size ≤ 65536) {l : List Tok} (hx : allT s = .ok l) :
    Calls Tryz.prog 51 #[.string s, .func (.func 52) #[] #[]] w (ReadPost s w (closeM (toksOf s l) (altM notNone (toksOf s l) 33 0 0))) := by
  have HX := hid hx
  clear hx
  have hs2 : s.size ≤ 140737488351232 := by omega
  have e1 : w.heap.size ≠ w.heap.size + 1 := by omega
  have e2 : w.heap.size ≠ w.heap.size + 1 + 1 := by omega
  have e3 : w.heap.size + 1 ≠ w.heap.size + 1 + 1 := by omega
  have hmf : ∀ (fn : Fn) (first cap : Array Value) (w : World), (Instr.makeFunc fn first cap).run Tryz.prog w = .ok (.func fn first cap) w := fun _ _ _ _ => rfl
  obtain ⟨i0, hi, hz0, hz1, hz2⟩ := info_parts info63'
  go_enter_defers Tryz.func51, Tryz.ntmps51
  go_wp2_with (first | (go_at_call 104; refine (all_any s _ hs2).mono ?_; rintro e w1 hp; obtain ⟨hb, hll, v, hown, rfl⟩ := hp.good HX.out; have b0 := (hb.block w.heap.size (by simp; omega)).trans (w3_b0 w); have b1 := (hb.block (w.heap.size + 1) (by simp)).trans (w3_b1 w); have b2 := (hb.block (w.heap.size + 1 + 1) (by simp)).trans (w3_b2 w); have c1 : w1.cell? ⟨w.heap.size + 1, 0, none⟩ = some (.int .i64 0) := cell_of_row _ _ 0 _ _ _ b1; have c2 : w1.cell? ⟨w.heap.size + 1 + 1, 0, none⟩ = some (.int .i64 0) := cell_of_row _ _ 0 _ _ _ b2; have f1 := frozen_of_row _ _ 0 _ _ b1; have f2 := frozen_of_row _ _ 0 _ _ b2; have HO := hid (ownsRow_setCell_below (ownsRow_setCell_below hown (a := ⟨w.heap.size + 1, 0, none⟩) (by simp) (.int .i64 s.size)) (a := ⟨w.heap.size + 1 + 1, 0, none⟩) (by simp) (.int .i64 0)); have hsz1 := hb.size; simp only [World.size_alloc] at hsz1; clear hp hown) | (at_builtin; go_loud (have hc1 := news_blk (two_new w1 ⟨w.heap.size + 1, 0, none⟩ ⟨w.heap.size + 1 + 1, 0, none⟩ (.int .i64 s.size) (.int .i64 0) (.cells (endC s) 139)); have hc3 : l.length + 1 ≤ maxLen := (by unfold maxLen; omega); have hc5 : (w3of w).heap.size ≤ (((w1.setCell ⟨w.heap.size + 1, 0, none⟩ (.int .i64 s.size)).setCell ⟨w.heap.size + 1 + 1, 0, none⟩ (.int .i64 0)).alloc (.cells (endC s) 139)).heap.size := (by have := hb.size; simp at *; omega); refine wpList_append_lies _ rfl (.tmp 20) (.tmp 24) 135 rfl (w3of w).heap.size 139 i0 _ 8 72 Tryz.underlying135 hi hz0 hz1 hz2 rfl (by decide) _ _ _ rfl (HO.out.alloc _) ⟨w1.heap.size, 0, none⟩ 1 1 (endC s).toList rfl rfl hc1 (one_of_all rfl) Nat.one_pos hc3 (by omega) hc5 (w1.heap.size + 1) (by simp) ?_)))
  intro g cap w5 ho hg _ hlt
  have hz0 := Pz.start (s := s) ho (by omega)
  have hns : w.heap.size + 3 ≤ w5.heap.size := by have := hg.size; simp [World.setCell] at this; omega
  have hlow : ∀ k, k < w.heap.size + 3 → (w5.alloc (.cells #[.slice (some ⟨g, 0, none⟩) (l.length + 1) cap, .int .i64 0, .int .i64 0] 141)).heap[k]? = ((w1.setCell ⟨w.heap.size + 1, 0, none⟩ (.int .i64 s.size)).setCell ⟨w.heap.size + 1 + 1, 0, none⟩ (.int .i64 0)).heap[k]? := fun k hk =>
    (alloc_old (by omega)).trans ((hg.block k (by simp [World.setCell]; omega) (fun e => by have := own_block HO.out e.symm; simp at this; omega)).trans (alloc_old (by simp [World.setCell]; omega)))
  have q0 := (hlow w.heap.size (by omega)).trans ((heap_setCell_other _ _ _ _ e2).trans ((heap_setCell_other _ _ _ _ e1).trans b0))
  have q1 := (hlow (w.heap.size + 1) (by omega)).trans ((heap_setCell_other _ _ _ _ e3).trans (heap_setCell_same _ _ 0 _ _ _ b1))
  have q2 := (hlow (w.heap.size + 1 + 1) (by omega)).trans (heap_setCell_same _ _ 0 _ _ _ ((heap_setCell_other _ _ _ _ (Ne.symm e3)).trans b2))
  have qb : Below w.heap.size w (w5.alloc (.cells #[.slice (some ⟨g, 0, none⟩) (l.length + 1) cap, .int .i64 0, .int .i64 0] 141)) := by
    refine ((((((w3_below w).trans (hb.mono (by simp; omega))).setCell (by dsimp only; omega) (p := ⟨w.heap.size + 1, 0, none⟩) (.int .i64 s.size)).setCell (by dsimp only; omega) (p := ⟨w.heap.size + 1 + 1, 0, none⟩) (.int .i64 0)).alloc (by simp [World.setCell]; omega) (.cells (endC s) 139)).grown hg (by simp [World.setCell]; omega) (fun k hk => by have := own_block HO.out hk; simp at this; omega)).alloc (by omega) _
  have hgn : w.heap.size + 3 ≤ g := by have := own_block ho (g := g) rfl; omega
  clear hlow b0 b1 b2 c1 c2 f1 f2 HO hc1 hc5 hc3 hg hlt ho hb
  have hn0 : some w.heap.size ≠ some w5.heap.size := fun e => by have := Option.some.inj e; omega
  have hn1 : some (w.heap.size + 1) ≠ some w5.heap.size := fun e => by have := Option.some.inj e; omega
  have hn2 : some (w.heap.size + 1 + 1) ≠ some w5.heap.size := fun e => by have := Option.some.inj e; omega
  have hT : (toksOf s l).length = l.length + 1 := by simp [toksOf]
  have hl0 := (Array.getElem?_eq_some_iff.1 q0).1
  have hl1 := (Array.getElem?_eq_some_iff.1 q1).1
  have hl2 := (Array.getElem?_eq_some_iff.1 q2).1
  generalize hw6 : w5.alloc (.cells #[.slice (some ⟨g, 0, none⟩) (l.length + 1) cap, .int .i64 0, .int .i64 0] 141) = w6 at *
  have hbp : w.heap.size ≤ w5.heap.size := by omega
  rcases hx : altM notNone (toksOf s l) 33 0 0 with ⟨p, y⟩ | ⟨r, a⟩
  · have HC := hid (closeM_bad (toksOf s l) hx)
    rw [← hx]
    have HA := hid hx
    clear hx
    go_wp2_with (go_at_call 52; refine ((alt_all (toksOf s l) 33).go (by decide) hz0).mono ?_; rintro e w7 hp; obtain ⟨hk7, rfl⟩ := hp.bad HA.out)
    exact leaves_caught s w w7 _ _ _ _ _ _ _ _ _ _ _ p y HC.out _ rfl rfl rfl (below_of_kept qb hk7 hbp) ((hk7.block _ hl0 hn0).trans q0) ((hk7.block _ hl1 hn1).trans q1) ((hk7.block _ hl2 hn2).trans q2)
  · rw [← hx]
    cases hkd : ((tokAt (toksOf s l) a).kind != 0)
    · have HC := hid (closeM_ok _ hx hkd)
      have HA := hid hx
      have HK := hid hkd
      clear hx
      have hq0 := field0
      have ngb : g ≠ w.heap.size := by omega
      have nbp : w5.heap.size ≠ w.heap.size := by omega
      go_wp2_with (first | (go_at_call 52; refine ((alt_all (toksOf s l) 33).go (by decide) hz0).mono ?_; rintro e w7 hp; obtain ⟨hk7, hl7, hz7, cs, rfl, hr⟩ := hp.good HA.out; obtain ⟨kk, x, s1, ad, n, cap2, mn, mx, rfl⟩ := hr.cells; have p0 := hid ((hk7.block _ hl0 hn0).trans q0); have p1 := hid ((hk7.block _ hl1 hn1).trans q1); have p2 := hid ((hk7.block _ hl2 hn2).trans q2); have s7 := hk7.size; clear hp) | (go_at_call 106; refine (tok_any (hz7.setRow nbp ngb (reC kk x s1 (.slice ad n cap2) mn mx))).mono ?_; rintro e w8 ⟨rfl, hb8⟩; simp only [Tok.cells]; have b80 := hid ((hb8.block w.heap.size (by simp; omega)).trans (setRow_heap p0.out (reC kk x s1 (.slice ad n cap2) mn mx))); have b81 := hid ((hb8.block (w.heap.size + 1) (by simp; omega)).trans ((setRow_other (reC kk x s1 (.slice ad n cap2) mn mx) (Ne.symm e1)).trans p1.out)); have b82 := hid ((hb8.block (w.heap.size + 1 + 1) (by simp; omega)).trans ((setRow_other (reC kk x s1 (.slice ad n cap2) mn mx) (Ne.symm e2)).trans p2.out)); have d1 : (w8.setRow w.heap.size (reC kk x s1 (.slice ad n cap2) mn mx)).cell? ⟨w.heap.size + 1, 0, none⟩ = some (.int .i64 s.size) := cell_of_row _ _ 0 _ _ _ ((setRow_other (reC kk x s1 (.slice ad n cap2) mn mx) (Ne.symm e1)).trans b81.out); have d2 : (w8.setRow w.heap.size (reC kk x s1 (.slice ad n cap2) mn mx)).cell? ⟨w.heap.size + 1 + 1, 0, none⟩ = some (.int .i64 0) := cell_of_row _ _ 0 _ _ _ ((setRow_other (reC kk x s1 (.slice ad n cap2) mn mx) (Ne.symm e2)).trans b82.out); have f1 := frozen_of_row _ _ 0 _ _ ((setRow_other (reC kk x s1 (.slice ad n cap2) mn mx) (Ne.symm e1)).trans b81.out); have f2 := frozen_of_row _ _ 0 _ _ ((setRow_other (reC kk x s1 (.slice ad n cap2) mn mx) (Ne.symm e2)).trans b82.out)) | (refine wpList_load_blk rfl 33 (.tmp 4) rfl 9 info27 _ Tryz.underlying33 rfl w.heap.size rfl 33 (reC kk x s1 (.slice ad n cap2) mn mx) b80.out rfl ?_) | (refine wpList_store_blk rfl 33 (.tmp 4) (.tmp 38) rfl 9 info27 w.heap.size 33 (reC kk x s1 (.slice ad n cap2) mn mx) b80.out rfl (reC kk x s1 (.slice ad n cap2) mn mx) rfl rfl rfl rfl ?_) | (refine wpList_store_blk rfl 33 (.tmp 4) (.tmp 31) rfl 9 info27 w.heap.size 33 reZ p0.out rfl (reC kk x s1 (.slice ad n cap2) mn mx) rfl rfl rfl rfl ?_))
      have hb7 : Below w.heap.size w w7 := below_of_kept qb hk7 hbp
      have hb8' : Below w.heap.size w w8 := ⟨hb8.os.trans hb7.os, hb8.tape.trans hb7.tape, hb8.output.trans hb7.output, Nat.le_trans hb7.size (by have := hb8.size; simpa using this), fun k hk => (hb8.block k (by simp; omega)).trans ((setRow_other _ (by omega)).trans (hb7.block k hk))⟩
      refine leaves_idle s w _ r HC.out (reC kk x s1 (.slice ad n cap2) mn mx) _ rfl rfl rfl ?_ rfl ?_ ?_ ?_ ?_
      · refine Below.setCell (Below.setCell (Below.row hb8' (Nat.le_refl _) _) ?_ _) ?_ _
        all_goals (dsimp only; omega)
      · exact (heap_setCell_other _ _ _ _ e2).trans ((heap_setCell_other _ _ _ _ e1).trans (setRow_heap b80.out _))
      · exact (heap_setCell_other _ _ _ _ e3).trans (heap_setCell_same _ _ 0 _ _ _ ((setRow_other _ (Ne.symm e1)).trans b81.out))
      · exact heap_setCell_same _ _ 0 _ _ _ ((heap_setCell_other _ _ _ _ (Ne.symm e3)).trans ((setRow_other _ (Ne.symm e2)).trans b82.out))
      · refine hr.frame (fun k hk _ => by omega) (fun k hk hl => ?_)
        exact (heap_setCell_other _ _ _ _ (by dsimp only; omega)).trans ((heap_setCell_other _ _ _ _ (by dsimp only; omega)).trans ((setRow_other _ (by omega)).trans ((hb8.block k (by simp; omega)).trans (setRow_other _ (by omega)))))
    · have HC := hid (closeM_end _ hx hkd)
      have HA := hid hx
      clear hx
      have hq0 := field0
      have ngb : g ≠ w.heap.size := by omega
      have nbp : w5.heap.size ≠ w.heap.size := by omega
      go_wp2_with (first | (go_at_call 52; refine ((alt_all (toksOf s l) 33).go (by decide) hz0).mono ?_; rintro e w7 hp; obtain ⟨hk7, hl7, hz7, cs, rfl, hr⟩ := hp.good HA.out; obtain ⟨kk, x, s1, ad, n, cap2, mn, mx, rfl⟩ := hr.cells; have p0 := hid ((hk7.block _ hl0 hn0).trans q0); have p1 := hid ((hk7.block _ hl1 hn1).trans q1); have p2 := hid ((hk7.block _ hl2 hn2).trans q2); have s7 := hk7.size; clear hp) | (go_at_call 106; refine (tok_any (hz7.setRow nbp ngb (reC kk x s1 (.slice ad n cap2) mn mx))).mono ?_; rintro e w8 ⟨rfl, hb8⟩; simp only [Tok.cells]; have b80 := hid ((hb8.block w.heap.size (by simp; omega)).trans (setRow_heap p0.out (reC kk x s1 (.slice ad n cap2) mn mx))); have b81 := hid ((hb8.block (w.heap.size + 1) (by simp; omega)).trans ((setRow_other (reC kk x s1 (.slice ad n cap2) mn mx) (Ne.symm e1)).trans p1.out)); have b82 := hid ((hb8.block (w.heap.size + 1 + 1) (by simp; omega)).trans ((setRow_other (reC kk x s1 (.slice ad n cap2) mn mx) (Ne.symm e2)).trans p2.out))) | (go_at_call 107; refine (fail_any ((hz7.setRow nbp ngb (reC kk x s1 (.slice ad n cap2) mn mx)).below hb8) _).mono ?_; rintro e w9 ⟨rfl, hb9⟩) | (refine wpList_store_blk rfl 33 (.tmp 4) (.tmp 31) rfl 9 info27 w.heap.size 33 reZ p0.out rfl (reC kk x s1 (.slice ad n cap2) mn mx) rfl rfl rfl rfl ?_))
      have hb7 : Below w.heap.size w w7 := below_of_kept qb hk7 hbp
      have hb8' : Below w.heap.size w w8 := ⟨hb8.os.trans hb7.os, hb8.tape.trans hb7.tape, hb8.output.trans hb7.output, Nat.le_trans hb7.size (by have := hb8.size; simpa using this), fun k hk => (hb8.block k (by simp; omega)).trans ((setRow_other _ (by omega)).trans (hb7.block k hk))⟩
      have s8 : w7.heap.size ≤ w8.heap.size := by have := hb8.size; simpa using this
      exact leaves_caught s w w9 _ _ _ _ _ _ _ _ _ _ _ _ 4 HC.out _ rfl rfl rfl (bnext hb8' hb9) ((hb9.block _ (by omega)).trans b80.out) ((hb9.block _ (by omega)).trans b81.out) ((hb9.block _ (by omega)).trans b82.out)
end Go.Proofs.YtfljcfdfgojdoaaGreatDoor

namespace Go.Proofs.YtfljcfdfgojdoaaGreatDoor
open Go.RowKit Go.Lib

theorem readRe_any (s : ByteArray) (w : World) (hs : s.size ≤ 65536) :
    Calls Tryz.prog 51 #[.string s, .func (.func 52) #[] #[]] w (ReadPost s w (parseRe s)) := by
  rcases hx : allT s with ⟨p, x⟩ | l
  · have h : parseRe s = .error ((p : Int), x) := by unfold parseRe; rw [hx]
    rw [h]
    exact readRe_lex s w hs _ hx
  · have h : parseRe s = closeM (toksOf s l) (altM notNone (toksOf s l) 33 0 0) := by unfold parseRe; rw [hx]
    rw [h]
    exact readRe_ok s w hs hx
theorem ReadPost.bad {s : ByteArray} {w w' : World} {e : Ending} {X : Except (Int × Int) Re} (h : ReadPost s w X e w') {p y : Int} (hx : X = .error (p, y)) :
    Below w.heap.size w w' ∧ e = .returned (.tuple #[.agg reZ, .int .i64 p, .int .i64 y]) := by
  subst hx; exact h
theorem ReadPost.good {s : ByteArray} {w w' : World} {e : Ending} {X : Except (Int × Int) Re} (h : ReadPost s w X e w') {r : Re} (hx : X = .ok r) :
    Below w.heap.size w w' ∧ ∃ k x t ad n cap mn mx, e = .returned (.tuple #[.agg (reC k x t (.slice ad n cap) mn mx), .int .i64 s.size, .int .i64 0]) ∧ ReAt w.heap.size w' r (reC k x t (.slice ad n cap) mn mx) := by
  subst hx
  obtain ⟨hb, cs, rfl, hr⟩ := h
  obtain ⟨kk, x, s1, ad, n, cap2, mn, mx, rfl⟩ := hr.cells
  exact ⟨hb, kk, x, s1, ad, n, cap2, mn, mx, rfl, hr⟩
theorem reZ_shape : reZ = reC 0 [] Se.none (.slice none 0 0) 0 0 := rfl

set_option maxRecDepth 100000 in
set_option maxHeartbeats 1000000 in
theorem parse_any (s : ByteArray) (w : World) (hs : s.size ≤ 65536) :
    Calls Tryz.prog 18 #[.string s] w (ReadPost s w (parseRe s)) := by
  have h0 : ∀ {w1 : World}, Below (w.alloc (.cells reZ 33)).heap.size (w.alloc (.cells reZ 33)) w1 → w1.heap[w.heap.size]? = some (.cells reZ 33 (0, 0)) := fun hb => (hb.block _ (by simp)).trans (heap_alloc_new _ _)
  have hlow : ∀ {w1 : World} (cs : Array Value), Below (w.alloc (.cells reZ 33)).heap.size (w.alloc (.cells reZ 33)) w1 → Below w.heap.size w (w1.setRow w.heap.size cs) := fun cs hb => Below.row (((Below.refl _ w).alloc (Nat.le_refl _) _).trans (hb.mono (by simp))) (Nat.le_refl _) cs
  rcases hx : parseRe s with ⟨p, y⟩ | r
  · have HX := hid hx
    rw [← hx]
    clear hx
    go_enter Tryz.func18, Tryz.ntmps18
    go_wp2_with (first | (go_at_call 51; refine (readRe_any s _ hs).mono ?_; rintro e w1 hp; obtain ⟨hb, rfl⟩ := hp.bad HX.out) | (refine wpList_store_blk rfl 33 (.tmp 2) (.tmp 7) rfl 9 info27 w.heap.size 33 reZ (h0 hb) rfl reZ rfl rfl rfl rfl ?_))
    refine bodyPost_ret (results_cell3 rfl _ _ w.heap.size 33 _ (0, 0) _ rfl (setRow_heap (h0 hb) _) Tryz.underlying33 rfl info27) rfl ?_
    refine ⟨hlow _ hb, ?_⟩
    rw [HX.out]
    rfl
  · have HX := hid hx
    rw [← hx]
    clear hx
    go_enter Tryz.func18, Tryz.ntmps18
    go_wp2_with (first | (go_at_call 51; refine (readRe_any s _ hs).mono ?_; rintro e w1 hp; obtain ⟨hb, k, x, t, ad, n, cap, mn, mx, rfl, hr⟩ := hp.good HX.out) | (refine wpList_store_blk rfl 33 (.tmp 2) (.tmp 7) rfl 9 info27 w.heap.size 33 reZ (h0 hb) rfl (reC k x t (.slice ad n cap) mn mx) rfl rfl rfl rfl ?_))
    refine bodyPost_ret (results_cell3 rfl _ _ w.heap.size 33 _ (0, 0) _ rfl (setRow_heap (h0 hb) _) Tryz.underlying33 rfl info27) rfl ?_
    refine ⟨hlow _ hb, ?_⟩
    rw [HX.out]
    refine ⟨_, rfl, hr.frame (fun g hg _ => by simp at hg; omega) (fun g hg _ => setRow_other _ (by simp at hg; omega))⟩
end Go.Proofs.YtfljcfdfgojdoaaGreatDoor

namespace Go.Proofs.YtfljcfdfgojdoaaGreatDoor
open Go.Lib

/-- a map -/
inductive Mp where
  | mk (kind : Int) (re : Re) (out : List B) (parts : List Mp) (min : Int) (max : Int)
abbrev RX (α : Type) := Except (Int × Int) (α × Nat)
def Re.zero : Re := .mk 0 [] Se.none [] 0 0
def Mp.zero : Mp := .mk 0 Re.zero [] [] 0 0
def mjoinM (kind : Int) (l : List Mp) : Mp := match l with | [m] => m | _ => .mk kind Re.zero [] l 0 0
def mAtomM (alt : Nat → Nat → RX Mp) (T : List Tok) (a dep : Nat) : RX Mp :=
  if isB (tokAt T a) [40] = true then
    if dep = 32 then .error ((tokAt T a).pos, 8) else
    match alt (a + 1) (dep + 1) with
    | .error e => .error e
    | .ok (m, a1) => if isB (tokAt T a1) [41] = true then .ok (m, a1 + 1) else .error ((tokAt T a1).pos, 4)
  else
    match leafM notNone T a with
    | .error e => .error e
    | .ok (r, a1) =>
      if isB (tokAt T a1) [58] = true then
        if ((tokAt T (a1 + 1)).kind != 2) = true then .error ((tokAt T (a1 + 1)).pos, 4) else .ok (.mk 2 r (tokAt T (a1 + 1)).text [] 0 0, a1 + 1 + 1)
      else .ok (.mk 1 r [] [] 0 0, a1)
def mRepM (atom : Nat → Nat → RX Mp) (T : List Tok) (a dep : Nat) : RX Mp :=
  match atom a dep with
  | .error e => .error e
  | .ok (part, a1) =>
    let o := oftenM T a1
    if o.ok = true then .ok (.mk 5 Re.zero [] [part] o.least o.most, o.next) else .ok (part, a1)
def mCatLoop (part : Nat → Nat → RX Mp) (T : List Tok) (dep : Nat) : Nat → List Mp → Nat → RX Mp
  | 0, _, _ => .error (0, 0)
  | f + 1, l, a =>
    if beginsB (tokAt T a) = true then
      match part a dep with
      | .error e => .error e
      | .ok (r, a1) => mCatLoop part T dep f (l ++ [r]) a1
    else .ok (mjoinM 3 l, a)
def mCatM (part : Nat → Nat → RX Mp) (T : List Tok) (a dep : Nat) : RX Mp :=
  match part a dep with
  | .error e => .error e
  | .ok (r, a1) => mCatLoop part T dep (T.length + 1) [r] a1
def mRowLoop (part : Nat → Nat → RX Mp) (T : List Tok) (dep : Nat) : Nat → List Mp → Nat → RX Mp
  | 0, _, _ => .error (0, 0)
  | f + 1, l, a =>
    if isB (tokAt T a) [124] = true then
      match part (a + 1) dep with
      | .error e => .error e
      | .ok (r, a1) => mRowLoop part T dep f (l ++ [r]) a1
    else .ok (mjoinM 4 l, a)
def mRowM (part : Nat → Nat → RX Mp) (T : List Tok) (a dep : Nat) : RX Mp :=
  match part a dep with
  | .error e => .error e
  | .ok (r, a1) => mRowLoop part T dep (T.length + 1) [r] a1
/-- a map's parts with signs between; the fuel: more than 32 less the depth -/
def mAltM (T : List Tok) : Nat → Nat → Nat → RX Mp
  | 0, _, _ => .error (0, 0)
  | n + 1, a, dep => mRowM (mCatM (mRepM (mAtomM (mAltM T n) T) T) T) T a dep

/-- an item -/
structure It where
  kind : Int
  name : List B
  re : Re
  map : Mp
  out : List B
  by_ : List B
  around : Bool
  left : Re
  right : Re
def namedM (kind : Int) (T : List Tok) (a dep : Nat) : RX It :=
  match nameM T a with
  | .error e => .error e
  | .ok (s, a1) =>
    if isB (tokAt T a1) [61] = true then
      match altM notNone T 33 (a1 + 1) dep with
      | .error e => .error e
      | .ok (r, a2) => .ok (⟨kind, s, r, Mp.zero, [], [], false, Re.zero, Re.zero⟩, a2)
    else .error ((tokAt T a1).pos, 4)
def mapItemM (T : List Tok) (a dep : Nat) : RX It :=
  match nameM T a with
  | .error e => .error e
  | .ok (s, a1) =>
    if isB (tokAt T a1) [61] = true then
      match mAltM T 33 (a1 + 1) dep with
      | .error e => .error e
      | .ok (m, a2) => .ok (⟨2, s, Re.zero, m, [], [], false, Re.zero, Re.zero⟩, a2)
    else .error ((tokAt T a1).pos, 4)
/-- what a rule puts: a text, or a map's name -/
def ruleOut (T : List Tok) (a : Nat) : RX (List B × List B) :=
  if ((tokAt T a).kind == 2) = true then .ok (((tokAt T a).text, []), a + 1) else
  match nameM T a with
  | .error e => .error e
  | .ok (s, a1) => .ok (([], s), a1)
def ruleTail (r : Re) (o : List B × List B) (T : List Tok) (a dep : Nat) : RX It :=
  if isB (tokAt T a) [47] = true then
    match altM notNone T 33 (a + 1) dep with
    | .error e => .error e
    | .ok (l, a1) =>
      if ((tokAt T a1).text != [95]) = true then .error ((tokAt T a1).pos, 4) else
      if ((tokAt T a1).kind != 1) = true then .error ((tokAt T a1).pos, 4) else
      match altM notNone T 33 (a1 + 1) dep with
      | .error e => .error e
      | .ok (q, a2) => .ok (⟨3, [], r, Mp.zero, o.1, o.2, true, l, q⟩, a2)
  else .ok (⟨3, [], r, Mp.zero, o.1, o.2, false, Re.zero, Re.zero⟩, a)
def ruleM (T : List Tok) (a dep : Nat) : RX It :=
  match altM notNone T 33 a dep with
  | .error e => .error e
  | .ok (r, a1) =>
    if isB (tokAt T a1) [45, 62] = true then
      match ruleOut T (a1 + 1) with
      | .error e => .error e
      | .ok (o, a2) => ruleTail r o T a2 dep
    else .error ((tokAt T a1).pos, 4)
/-- the item that a word begins; 0 where none does -/
def kindOf (s : List B) : Nat :=
  if s == [100, 101, 102] then 1 else if s == [109, 97, 112] then 2 else if s == [114, 117, 108, 101] then 3 else if s == [116, 111, 107, 101, 110] then 4 else 0
def itemM (k : Nat) (T : List Tok) (a dep : Nat) : RX It :=
  if k = 1 then namedM 1 T a dep else if k = 2 then mapItemM T a dep else if k = 3 then ruleM T a dep else namedM 4 T a dep
def fileLoop (T : List Tok) (dep : Nat) : Nat → List It → Nat → RX (List It)
  | 0, _, _ => .error (0, 0)
  | f + 1, l, a =>
    if ((tokAt T a).kind != 0) = true then
      if l.length = 256 then .error ((tokAt T a).pos, 2) else
      if kindOf (tokAt T a).text = 0 then .error ((tokAt T a).pos, 4) else
      if ((tokAt T a).kind != 1) = true then .error ((tokAt T a).pos, 4) else
      match itemM (kindOf (tokAt T a).text) T (a + 1) dep with
      | .error e => .error e
      | .ok (x, a1) =>
        if isB (tokAt T a1) [59] = true then fileLoop T dep f (l ++ [x]) (a1 + 1) else .error ((tokAt T a1).pos, 4)
    else .ok (l, a)
def fileM (T : List Tok) (a dep : Nat) : RX (List It) := fileLoop T dep (T.length + 1) [] a
end Go.Proofs.YtfljcfdfgojdoaaGreatDoor
