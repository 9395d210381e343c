/-
  The contract of parse.File: it hands back what the plain function parseFile says, for a text of no more than 65536 bytes.
  SameRe returns true at two expressions in memory that are read as one.
-/
import Derived.Test.YtfljcfdfgojdoaaGreatDoorSb21
import Derived.Test.YtfljcfdfgojdoaaGreatDoorSb11
import Derived.StillTailTactics
namespace Go.Proofs.YtfljcfdfgojdoaaGreatDoor
open Go.RowKit Go.Lib

abbrev catchF (n : Nat) : Deferred := { target := .fn (.func 120) #[.pointer (some ⟨n, 0, none⟩), .pointer (some ⟨n + 1, 0, none⟩), .pointer (some ⟨n + 1 + 1, 0, none⟩)], args := #[] }
theorem leaves_caught2 (s : ByteArray) (w w7 : World) {X : Except (Int × Int) (List It)} (v0 v1 v2 : Value) (p y : Int) (hX : X = .error (p, y)) (tmps : Array Value) (t4 : tmps.getD 4 undef = .pointer (some ⟨w.heap.size, 0, none⟩)) (t5 : tmps.getD 5 undef = .pointer (some ⟨w.heap.size + 1, 0, none⟩)) (t6 : tmps.getD 6 undef = .pointer (some ⟨w.heap.size + 1 + 1, 0, none⟩))
    (hb : Below w.heap.size w w7) (h0 : w7.heap[w.heap.size]? = some (.cells #[v0] 22 (0, 0))) (h1 : w7.heap[w.heap.size + 1]? = some (.cells #[v1] 3 (0, 0))) (h2 : w7.heap[w.heap.size + 1 + 1]? = some (.cells #[v2] 24 (0, 0))) :
    Leaves Tryz.prog Tryz.f59 tmps (ReadsPost s w X) [catchF w.heap.size] (.panicking [{ v := .iface 143 (.agg #[.int .i64 p, .int .i64 y]), recovered := false }]) w7 := by
  subst hX
  refine leaves_cons (f := 120) (args := #[.pointer (some ⟨w.heap.size, 0, none⟩), .pointer (some ⟨w.heap.size + 1, 0, none⟩), .pointer (some ⟨w.heap.size + 1 + 1, 0, none⟩)]) (by simp) (by simp [go_sem]) ?_
  refine (catch_panicking2 w.heap.size (w.heap.size + 1) (w.heap.size + 1 + 1) v0 v1 v2 p y [] w7 h0 h1 h2 (by omega) (by omega)).mono ?_
  rintro e u' w'' ⟨rfl, rfl, hb', b0', b1', b2'⟩
  exact ⟨_, results_lll rfl tmps w'' w.heap.size (w.heap.size + 1) (w.heap.size + 1 + 1) 22 3 24 (.slice none 0 0) (.int .i64 p) (.int .i64 y) t4 b0' t5 b1' t6 b2', hb.trans hb', rfl⟩
theorem leaves_idle2 (s : ByteArray) (w w7 : World) {X : Except (Int × Int) (List It)} (l : List It) (hX : X = .ok l) (v : Value) (tmps : Array Value) (t4 : tmps.getD 4 undef = .pointer (some ⟨w.heap.size, 0, none⟩)) (t5 : tmps.getD 5 undef = .pointer (some ⟨w.heap.size + 1, 0, none⟩)) (t6 : tmps.getD 6 undef = .pointer (some ⟨w.heap.size + 1 + 1, 0, none⟩))
    (hb : Below w.heap.size w w7) (h0 : w7.heap[w.heap.size]? = some (.cells #[v] 22 (0, 0))) (h1 : w7.heap[w.heap.size + 1]? = some (.cells #[.int .i64 s.size] 3 (0, 0))) (h2 : w7.heap[w.heap.size + 1 + 1]? = some (.cells #[.int .i64 0] 24 (0, 0))) (hr : Its w.heap.size w7 l v) :
    Leaves Tryz.prog Tryz.f59 tmps (ReadsPost s w X) [catchF w.heap.size] .returning w7 := by
  subst hX
  refine leaves_cons (f := 120) (args := #[.pointer (some ⟨w.heap.size, 0, none⟩), .pointer (some ⟨w.heap.size + 1, 0, none⟩), .pointer (some ⟨w.heap.size + 1 + 1, 0, none⟩)]) (by simp) (by simp [go_sem]) ?_
  refine (catch_idle2 _ _ _ w7).mono ?_
  rintro e u' w'' ⟨rfl, rfl, rfl⟩
  exact ⟨_, results_lll rfl tmps w'' w.heap.size (w.heap.size + 1) (w.heap.size + 1 + 1) 22 3 24 v (.int .i64 s.size) (.int .i64 0) t4 h0 t5 h1 t6 h2, hb, v, rfl, hr⟩
theorem Pz.setOther' {T : List Tok} {bp bt cap a dep g : Nat} {w : World} (h : Pz T bp bt cap a dep w) (h1 : bp ≠ g) (h2 : bt ≠ g) (v : Value) : Pz T bp bt cap a dep (w.setCell ⟨g, 0, none⟩ v) := h.setOther h1 h2 0 v
theorem Its.frame {base b2 : Nat} {w w' : World} {l : List It} {v : Value} (h : Its base w l v) (h2 : b2 ≤ base) (hf : ∀ g, base ≤ g → g < w.heap.size → w'.heap[g]? = w.heap[g]?) : Its b2 w' l v := by
  obtain ⟨xs, h1, h3⟩ := h.own
  exact ⟨xs, ownsRow_same h1 (fun g hg => Nat.le_trans h2 (own_block h1 hg)) (fun g hg hl => hf g (own_block h1 hg) hl), h3.frame (fun _ hg _ => ⟨Nat.le_trans h2 hg.1, hg.2⟩) (fun g hg hl => hf g hg.1 hl)⟩

set_option maxRecDepth 100000 in
set_option maxHeartbeats 2000000 in
theorem readIt_ok (s : ByteArray) (w : World) (hs : s.size ≤ 65536) {l : List Tok} (hx : allT s = .ok l) :
    Calls Tryz.prog 59 #[.string s, .func (.func 60) #[] #[]] w (ReadsPost s w (closeF (toksOf s l) (fileM (toksOf s l) 0 0))) := by
  have HX := hid hx
  clear hx
  have hs2 : s.size ≤ 140737488351232 := by omega
  have e1 : w.heap.size ≠ w.heap.size + 1 := by omega
  have e2 : w.heap.size ≠ w.heap.size + 1 + 1 := by omega
  have e3 : w.heap.size + 1 ≠ w.heap.size + 1 + 1 := by omega
  have hmf : ∀ (fn : Fn) (first cap : Array Value) (w : World), (Instr.makeFunc fn first cap).run Tryz.prog w = .ok (.func fn first cap) w := fun _ _ _ _ => rfl
  obtain ⟨i0, hi, hz0, hz1, hz2⟩ := info_parts info63'
  go_enter_defers Tryz.func59, Tryz.ntmps59
  go_wp2_with (first | (go_at_call 104; refine (all_any s _ hs2).mono ?_; rintro e w1 hp; obtain ⟨hb, hll, v, hown, rfl⟩ := hp.good HX.out; have b0 := (hb.block w.heap.size (by simp; omega)).trans (w4_b0 w); have b1 := (hb.block (w.heap.size + 1) (by simp)).trans (w4_b1 w); have b2 := (hb.block (w.heap.size + 1 + 1) (by simp)).trans (w4_b2 w); have c1 : w1.cell? ⟨w.heap.size + 1, 0, none⟩ = some (.int .i64 0) := cell_of_row _ _ 0 _ _ _ b1; have c2 : w1.cell? ⟨w.heap.size + 1 + 1, 0, none⟩ = some (.int .i64 0) := cell_of_row _ _ 0 _ _ _ b2; have f1 := frozen_of_row _ _ 0 _ _ b1; have f2 := frozen_of_row _ _ 0 _ _ b2; have HO := hid (ownsRow_setCell_below (ownsRow_setCell_below hown (a := ⟨w.heap.size + 1, 0, none⟩) (by simp) (.int .i64 s.size)) (a := ⟨w.heap.size + 1 + 1, 0, none⟩) (by simp) (.int .i64 0)); have hsz1 := hb.size; simp only [World.size_alloc] at hsz1; clear hp hown) | (at_builtin; go_loud (have hc1 := news_blk (two_new w1 ⟨w.heap.size + 1, 0, none⟩ ⟨w.heap.size + 1 + 1, 0, none⟩ (.int .i64 s.size) (.int .i64 0) (.cells (endC s) 139)); have hc3 : l.length + 1 ≤ maxLen := (by unfold maxLen; omega); have hc5 : (w4of w).heap.size ≤ (((w1.setCell ⟨w.heap.size + 1, 0, none⟩ (.int .i64 s.size)).setCell ⟨w.heap.size + 1 + 1, 0, none⟩ (.int .i64 0)).alloc (.cells (endC s) 139)).heap.size := (by have := hb.size; simp at *; omega); refine wpList_append_lies _ rfl (.tmp 20) (.tmp 24) 135 rfl (w4of w).heap.size 139 i0 _ 8 72 Tryz.underlying135 hi hz0 hz1 hz2 rfl (by decide) _ _ _ rfl (HO.out.alloc _) ⟨w1.heap.size, 0, none⟩ 1 1 (endC s).toList rfl rfl hc1 (one_of_all rfl) Nat.one_pos hc3 (by omega) hc5 (w1.heap.size + 1) (by simp) ?_)))
  intro g cap w5 ho hg _ hlt
  have hz0 := Pz.start (s := s) ho (by omega)
  have hns : w.heap.size + 3 ≤ w5.heap.size := by have := hg.size; simp [World.setCell] at this; omega
  have hlow : ∀ k, k < w.heap.size + 3 → (w5.alloc (.cells #[.slice (some ⟨g, 0, none⟩) (l.length + 1) cap, .int .i64 0, .int .i64 0] 141)).heap[k]? = ((w1.setCell ⟨w.heap.size + 1, 0, none⟩ (.int .i64 s.size)).setCell ⟨w.heap.size + 1 + 1, 0, none⟩ (.int .i64 0)).heap[k]? := fun k hk =>
    (alloc_old (by omega)).trans ((hg.block k (by simp [World.setCell]; omega) (fun e => by have := own_block HO.out e.symm; simp at this; omega)).trans (alloc_old (by simp [World.setCell]; omega)))
  have q0 := (hlow w.heap.size (by omega)).trans ((heap_setCell_other _ _ _ _ e2).trans ((heap_setCell_other _ _ _ _ e1).trans b0))
  have q1 := (hlow (w.heap.size + 1) (by omega)).trans ((heap_setCell_other _ _ _ _ e3).trans (heap_setCell_same _ _ 0 _ _ _ b1))
  have q2 := (hlow (w.heap.size + 1 + 1) (by omega)).trans (heap_setCell_same _ _ 0 _ _ _ ((heap_setCell_other _ _ _ _ (Ne.symm e3)).trans b2))
  have qb : Below w.heap.size w (w5.alloc (.cells #[.slice (some ⟨g, 0, none⟩) (l.length + 1) cap, .int .i64 0, .int .i64 0] 141)) := by
    refine ((((((w4_below w).trans (hb.mono (by simp; omega))).setCell (by dsimp only; omega) (p := ⟨w.heap.size + 1, 0, none⟩) (.int .i64 s.size)).setCell (by dsimp only; omega) (p := ⟨w.heap.size + 1 + 1, 0, none⟩) (.int .i64 0)).alloc (by simp [World.setCell]; omega) (.cells (endC s) 139)).grown hg (by simp [World.setCell]; omega) (fun k hk => by have := own_block HO.out hk; simp at this; omega)).alloc (by omega) _
  have hgn : w.heap.size + 3 ≤ g := by have := own_block ho (g := g) rfl; omega
  clear hlow b0 b1 b2 c1 c2 f1 f2 HO hc1 hc5 hc3 hg hlt ho hb
  have hn0 : some w.heap.size ≠ some w5.heap.size := fun e => by have := Option.some.inj e; omega
  have hn1 : some (w.heap.size + 1) ≠ some w5.heap.size := fun e => by have := Option.some.inj e; omega
  have hn2 : some (w.heap.size + 1 + 1) ≠ some w5.heap.size := fun e => by have := Option.some.inj e; omega
  have hT : (toksOf s l).length = l.length + 1 := by simp [toksOf]
  have hl0 := (Array.getElem?_eq_some_iff.1 q0).1
  have hl1 := (Array.getElem?_eq_some_iff.1 q1).1
  have hl2 := (Array.getElem?_eq_some_iff.1 q2).1
  generalize hw6 : w5.alloc (.cells #[.slice (some ⟨g, 0, none⟩) (l.length + 1) cap, .int .i64 0, .int .i64 0] 141) = w6 at *
  have hbp : w.heap.size ≤ w5.heap.size := by omega
  rcases hx : fileM (toksOf s l) 0 0 with ⟨p, y⟩ | ⟨r, a⟩
  · have HC := hid (closeF_bad (toksOf s l) hx)
    rw [← hx]
    have HA := hid hx
    clear hx
    go_wp2_with (go_at_call 60; refine (file_any hz0).mono ?_; rintro e w7 hp; obtain ⟨hk7, rfl⟩ := hp.bad HA.out)
    exact leaves_caught2 s w w7 _ _ _ p y HC.out _ rfl rfl rfl (below_of_kept qb hk7 hbp) ((hk7.block _ hl0 hn0).trans q0) ((hk7.block _ hl1 hn1).trans q1) ((hk7.block _ hl2 hn2).trans q2)
  · rw [← hx]
    have ngb : g ≠ w.heap.size := by omega
    have nbp : w5.heap.size ≠ w.heap.size := by omega
    have hq0 := field0
    cases hkd : ((tokAt (toksOf s l) a).kind != 0)
    · have HC := hid (closeF_ok _ hx hkd)
      have HA := hid hx
      have HK := hid hkd
      clear hx
      go_wp2_with (first | (go_at_call 60; refine (file_any hz0).mono ?_; rintro e w7 hp; obtain ⟨hk7, hz7, v7, rfl, hr⟩ := hp.good HA.out; obtain ⟨ad, n7, rfl⟩ := hr.shape; have HR := hid hr; have p0 := hid ((hk7.block _ hl0 hn0).trans q0); have p1 := hid ((hk7.block _ hl1 hn1).trans q1); have p2 := hid ((hk7.block _ hl2 hn2).trans q2); have s7 := hk7.size; have c70 : w7.cell? ⟨w.heap.size, 0, none⟩ = some (.slice none 0 0) := cell_of_row _ _ 0 _ _ _ p0.out; have f70 := frozen_of_row _ _ 0 _ _ p0.out; clear hp hr) | (go_at_call 106; refine (tok_any (hz7.setOther' nbp ngb (.slice ad r.length n7))).mono ?_; rintro e w8 ⟨rfl, hb8⟩; simp only [Tok.cells]; have b80 := hid ((hb8.block w.heap.size (by simp [World.setCell]; omega)).trans (heap_setCell_same _ _ 0 _ _ (.slice ad r.length n7) p0.out)); have b81 := hid ((hb8.block (w.heap.size + 1) (by simp [World.setCell]; omega)).trans ((heap_setCell_other _ _ _ _ (Ne.symm e1)).trans p1.out)); have b82 := hid ((hb8.block (w.heap.size + 1 + 1) (by simp [World.setCell]; omega)).trans ((heap_setCell_other _ _ _ _ (Ne.symm e2)).trans p2.out)); have d0 : w8.cell? ⟨w.heap.size, 0, none⟩ = some (.slice ad r.length n7) := cell_of_row _ _ 0 _ _ _ b80.out; have d1 : w8.cell? ⟨w.heap.size + 1, 0, none⟩ = some (.int .i64 s.size) := cell_of_row _ _ 0 _ _ _ b81.out; have d2 : w8.cell? ⟨w.heap.size + 1 + 1, 0, none⟩ = some (.int .i64 0) := cell_of_row _ _ 0 _ _ _ b82.out; have f0 := frozen_of_row _ _ 0 _ _ b80.out; have f1 := frozen_of_row _ _ 0 _ _ b81.out; have f2 := frozen_of_row _ _ 0 _ _ b82.out))
      have hb7 : Below w.heap.size w w7 := below_of_kept qb hk7 hbp
      have hb8' : Below w.heap.size w w8 := (hb7.setCell (p := ⟨w.heap.size, 0, none⟩) (Nat.le_refl _) _).trans (hb8.mono (by simp [World.setCell]; omega))
      refine leaves_idle2 s w _ r HC.out (.slice ad r.length n7) _ rfl rfl rfl ?_ ?_ ?_ ?_ ?_
      · refine Below.setCell (Below.setCell (Below.setCell hb8' ?_ _) ?_ _) ?_ _
        all_goals (dsimp only; omega)
      · exact (heap_setCell_other _ _ _ _ e2).trans ((heap_setCell_other _ _ _ _ e1).trans (heap_setCell_same _ _ 0 _ _ _ b80.out))
      · exact (heap_setCell_other _ _ _ _ e3).trans (heap_setCell_same _ _ 0 _ _ _ ((heap_setCell_other _ _ _ _ (Ne.symm e1)).trans b81.out))
      · exact heap_setCell_same _ _ 0 _ _ _ ((heap_setCell_other _ _ _ _ (Ne.symm e3)).trans ((heap_setCell_other _ _ _ _ (Ne.symm e2)).trans b82.out))
      · refine HR.out.frame (by omega) (fun k hk hl => ?_)
        have hk' : w.heap.size + 4 ≤ k := by have := Nat.le_trans hns (by rw [← hw6, World.size_alloc]; omega : w5.heap.size ≤ w6.heap.size); rw [← hw6, World.size_alloc] at hk; omega
        exact (heap_setCell_other _ _ _ _ (by dsimp only; omega)).trans ((heap_setCell_other _ _ _ _ (by dsimp only; omega)).trans ((heap_setCell_other _ _ _ _ (by dsimp only; omega)).trans ((hb8.block k (by simpa [World.setCell] using hl)).trans (heap_setCell_other _ _ _ _ (by dsimp only; omega)))))
    · have HC := hid (closeF_end _ hx hkd)
      have HA := hid hx
      clear hx
      go_wp2_with (first | (go_at_call 60; refine (file_any hz0).mono ?_; rintro e w7 hp; obtain ⟨hk7, hz7, v7, rfl, hr⟩ := hp.good HA.out; obtain ⟨ad, n7, rfl⟩ := hr.shape; have p0 := hid ((hk7.block _ hl0 hn0).trans q0); have p1 := hid ((hk7.block _ hl1 hn1).trans q1); have p2 := hid ((hk7.block _ hl2 hn2).trans q2); have s7 := hk7.size; have c70 : w7.cell? ⟨w.heap.size, 0, none⟩ = some (.slice none 0 0) := cell_of_row _ _ 0 _ _ _ p0.out; have f70 := frozen_of_row _ _ 0 _ _ p0.out; clear hp hr) | (go_at_call 106; refine (tok_any (hz7.setOther' nbp ngb (.slice ad r.length n7))).mono ?_; rintro e w8 ⟨rfl, hb8⟩; simp only [Tok.cells]; have b80 := hid ((hb8.block w.heap.size (by simp [World.setCell]; omega)).trans (heap_setCell_same _ _ 0 _ _ (.slice ad r.length n7) p0.out)); have b81 := hid ((hb8.block (w.heap.size + 1) (by simp [World.setCell]; omega)).trans ((heap_setCell_other _ _ _ _ (Ne.symm e1)).trans p1.out)); have b82 := hid ((hb8.block (w.heap.size + 1 + 1) (by simp [World.setCell]; omega)).trans ((heap_setCell_other _ _ _ _ (Ne.symm e2)).trans p2.out))) | (go_at_call 107; refine (fail_any ((hz7.setOther' nbp ngb (.slice ad r.length n7)).below hb8) _).mono ?_; rintro e w9 ⟨rfl, hb9⟩))
      have hb7 : Below w.heap.size w w7 := below_of_kept qb hk7 hbp
      have hb8' : Below w.heap.size w w8 := (hb7.setCell (p := ⟨w.heap.size, 0, none⟩) (Nat.le_refl _) _).trans (hb8.mono (by simp [World.setCell]; omega))
      have s8 : w7.heap.size ≤ w8.heap.size := by have := hb8.size; simpa [World.setCell] using this
      exact leaves_caught2 s w w9 _ _ _ _ 4 HC.out _ rfl rfl rfl (bnext hb8' hb9) ((hb9.block _ (by omega)).trans b80.out) ((hb9.block _ (by omega)).trans b81.out) ((hb9.block _ (by omega)).trans b82.out)

theorem readIt_any (s : ByteArray) (w : World) (hs : s.size ≤ 65536) :
    Calls Tryz.prog 59 #[.string s, .func (.func 60) #[] #[]] w (ReadsPost s w (parseFile s)) := by
  rcases hx : allT s with ⟨p, x⟩ | l
  · have h : parseFile s = .error ((p : Int), x) := by unfold parseFile; rw [hx]
    rw [h]
    exact readIt_lex s w hs _ hx
  · have h : parseFile s = closeF (toksOf s l) (fileM (toksOf s l) 0 0) := by unfold parseFile; rw [hx]
    rw [h]
    exact readIt_ok s w hs hx
theorem ReadsPost.shape {s : ByteArray} {w w' : World} {e : Ending} {X : Except (Int × Int) (List It)} (h : ReadsPost s w X e w') : ∃ v p y, e = .returned (.tuple #[v, p, y]) := by
  obtain ⟨_, h⟩ := h
  rcases X with ⟨p, y⟩ | l
  · exact ⟨_, _, _, h⟩
  · obtain ⟨v, h, _⟩ := h
    exact ⟨_, _, _, h⟩
set_option maxRecDepth 100000 in
set_option maxHeartbeats 1000000 in
theorem parseFile_any (s : ByteArray) (w : World) (hs : s.size ≤ 65536) :
    Calls Tryz.prog 24 #[.string s] w (ReadsPost s w (parseFile s)) := by
  go_enter Tryz.func24, Tryz.ntmps24
  go_wp2_with (go_at_call 59; refine (readIt_any s _ hs).mono ?_; rintro e w1 hp; obtain ⟨v, p, y, rfl⟩ := hp.shape)
  exact bodyPost_ret (v := .tuple #[v, p, y]) (by simp [results, Tryz.results24, go_sem]) rfl hp
end Go.Proofs.YtfljcfdfgojdoaaGreatDoor

namespace Go.Proofs.YtfljcfdfgojdoaaGreatDoor
open Go.RowKit Go.Lib

theorem eq24 (a b c d a' b' c' d' : Int) (w : World) : (Op.equalIn 10000 30 (.agg #[.int .u64 a, .int .u64 b, .int .u64 c, .int .u64 d]) (.agg #[.int .u64 a', .int .u64 b', .int .u64 c', .int .u64 d'])).run Tryz.prog w = .ok (a == a' && b == b' && c == c' && d == d') w := by
  have u3 := Tryz.underlying28
  have a3 := Tryz.isAgg22
  have z3 := Tryz.sizeOf22
  rw [show (10000 : Nat) = 9999 + 1 from rfl, Op.equalIn]
  simp only [Sem.run_bind, run_underlying Tryz.underlying30, Result.andThen_ok]
  simp only [Std.Legacy.Range.forIn_eq_forIn_range', Std.Legacy.Range.size, Nat.sub_zero, Nat.add_sub_cancel, Nat.div_one, List.range'_succ, List.range'_zero, List.forIn_cons, List.forIn_nil]
  go_simp
  by_cases h1 : a = a' <;> by_cases h2 : b = b' <;> by_cases h3 : c = c' <;> by_cases h4 : d = d' <;> simp [h1, h2, h3, h4]
theorem PartsIn.at {F : Nat → Prop} {w : World} : ∀ {l : List Re} {xs : List Value} {i : Nat} {r : Re}, PartsIn F w l xs → l[i]? = some r → ∃ k x s ad n cap mn mx, ReIn F w r (reC k x s (.slice ad n cap) mn mx) ∧ ∀ j v, (reC k x s (.slice ad n cap) mn mx).toList[j]? = some v → xs[i * 9 + j]? = some v
  | [], xs, i, r, h, hi => by simp at hi
  | r0 :: rs, xs, 0, r, h, hi => by
    simp at hi; subst hi
    unfold PartsIn at h
    obtain ⟨cs, rest, rfl, h1, h2⟩ := h
    obtain ⟨k, x, s, ad, n, cap, mn, mx, rfl⟩ := h1.cells
    refine ⟨k, x, s, ad, n, cap, mn, mx, h1, fun j v hv => ?_⟩
    rw [Nat.zero_mul, Nat.zero_add, List.getElem?_append_left (List.getElem?_eq_some_iff.1 hv).1]
    exact hv
  | r0 :: rs, xs, i + 1, r, h, hi => by
    unfold PartsIn at h
    obtain ⟨cs, rest, rfl, h1, h2⟩ := h
    obtain ⟨k, x, s, ad, n, cap, mn, mx, h3, h4⟩ := PartsIn.at (i := i) (r := r) h2 (by simpa using hi)
    obtain ⟨k', x', s', ad', n', cap', mn', mx', rfl⟩ := h1.cells
    refine ⟨k, x, s, ad, n, cap, mn, mx, h3, fun j v hv => ?_⟩
    have e : (i + 1) * 9 + j = (reC k' x' s' (.slice ad' n' cap') mn' mx').toList.length + (i * 9 + j) := by simp; omega
    rw [e, List.getElem?_append_right (Nat.le_add_right _ _), Nat.add_sub_cancel_left]
    exact h4 j v hv

/-- the parts of a tree, as cells of a block -/
theorem ReIn.open {F : Nat → Prop} {w : World} {k : Int} {x : List B} {s : Se} {ps : List Re} {mn mx : Int} {cs : Array Value} (h : ReIn F w (.mk k x s ps mn mx) cs) :
    ∃ ad cap, cs = reC k x s (.slice ad ps.length cap) mn mx ∧ ((ps = [] ∧ ad = none) ∨ ∃ g, ad = some ⟨g, 0, none⟩ ∧ g < w.heap.size ∧ ps.length ≤ cap ∧ cap ≤ maxLen ∧
      ∀ i r, ps[i]? = some r → ∃ k x s ad n cap mn mx, ReIn F w r (reC k x s (.slice ad n cap) mn mx) ∧ ∀ j v, (reC k x s (.slice ad n cap) mn mx).toList[j]? = some v → w.cell? ⟨g, i * 9 + j, none⟩ = some v) := by
  unfold ReIn at h
  obtain ⟨ad, cap, xs, rfl, ho, _, hp⟩ := h
  refine ⟨ad, cap, rfl, ?_⟩
  rcases ho.2 with ⟨hv, hn⟩ | ⟨g, cap', cur, hv, _, hg, hn, hm, hsz, htk⟩
  · injection hv with h1 h2 h3
    exact .inl ⟨List.length_eq_zero_iff.1 hn, h1⟩
  · injection hv with h1 h2 h3
    subst h1
    subst h3
    refine .inr ⟨g, rfl, (Array.getElem?_eq_some_iff.1 hg).1, hn, hm, fun i r hi => ?_⟩
    obtain ⟨k, x, s, ad, n, cap, mn, mx, h3, h4⟩ := hp.at hi
    refine ⟨k, x, s, ad, n, cap, mn, mx, h3, fun j v hv => ?_⟩
    have hadd : (⟨g, 0, none⟩ : Addr).add (i * 9 + j) = ⟨g, i * 9 + j, none⟩ := by unfold Addr.add; split <;> simp_all
    rw [← hadd]
    exact ho.cells (g := g) rfl _ _ (h4 j v hv)

set_option maxRecDepth 100000 in
set_option maxHeartbeats 2000000 in
theorem same_yes : ∀ (N : Nat) (r : Re), SizeOf.sizeOf r < N → ∀ (F F' : Nat → Prop) (cs cs' : Array Value) (w : World), ReIn F w r cs → ReIn F' w r cs' →
    Calls Tryz.prog 19 #[.agg cs, .agg cs'] w fun e w' => e = .returned (.bool true) ∧ Below w.heap.size w w' := by
  intro N
  induction N with
  | zero => intro r h; omega
  | succ N ih =>
    intro r hN F F' cs cs' w h h'
    obtain ⟨k, x, s, ps, mn, mx⟩ := r
    obtain ⟨ad, cap, rfl, ho⟩ := h.open
    obtain ⟨ad', cap', rfl, ho'⟩ := h'.open
    have H := hid h
    have H' := hid h'
    have IH := hid ih
    clear h h' ih
    have HO := hid ho
    have HO' := hid ho'
    clear ho ho'
    have e24 := eq24
    have hlen : ps.length ≤ 9223372036854775807 := by
      rcases HO.out with ⟨h, _⟩ | ⟨g, _, _, h1, h2, _⟩
      · rw [h]; simp
      · unfold maxLen at h2; omega
    go_enter Tryz.func19, Tryz.ntmps19
    go_wp2
    have hb0 : Below w.heap.size w ((w.alloc (.cells (reC k x s (.slice ad ps.length cap) mn mx) 33)).alloc (.cells (reC k x s (.slice ad' ps.length cap') mn mx) 33)) := ((Below.refl _ w).alloc (Nat.le_refl _) _).alloc (by simp) _
    go_loopw [5] (fun v wr => ∃ i : Nat, i ≤ ps.length ∧ v = .int .i64 i ∧ Below (w.heap.size + 2) ((w.alloc (.cells (reC k x s (.slice ad ps.length cap) mn mx) 33)).alloc (.cells (reC k x s (.slice ad' ps.length cap') mn mx) 33)) wr) (fun v _ => ps.length - (RowKit.intOf v).toNat)
    case atStart => exact ⟨0, Nat.zero_le _, rfl, Below.refl _ _⟩
    case round =>
      obtain ⟨i, hi, rfl, hb⟩ := hrel
      have c3 : wr.cell? ⟨w.heap.size, 6, none⟩ = some (.slice ad ps.length cap) := cell_of_row _ _ 6 _ _ _ ((hb.block w.heap.size (by omega)).trans (heap_alloc2_old _ _ _))
      have c3' : wr.cell? ⟨w.heap.size + 1, 6, none⟩ = some (.slice ad' ps.length cap') := cell_of_row _ _ 6 _ _ _ ((hb.block (w.heap.size + 1) (by omega)).trans (heap_alloc2_new _ _ _))
      have hwr : Below w.heap.size w wr := hb0.trans (hb.mono (by omega))
      have hsz : w.heap.size + 2 ≤ wr.heap.size := by have := hb.size; simp at this; omega
      by_cases hlt : i < ps.length
      · obtain ⟨g, rfl, hgl, hcap, hcm, hparts⟩ := HO.out.resolve_left (by rintro ⟨h, _⟩; rw [h] at hlt; simp at hlt)
        obtain ⟨g', rfl, hgl', hcap', hcm', hparts'⟩ := HO'.out.resolve_left (by rintro ⟨h, _⟩; rw [h] at hlt; simp at hlt)
        obtain ⟨k1, x1, s1, ad1, n1, cap1, mn1, mx1, hr1, hc⟩ := hparts i ps[i] (List.getElem?_eq_getElem hlt)
        obtain ⟨k2, x2, s2, ad2, n2, cap2, mn2, mx2, hr2, hc'⟩ := hparts' i ps[i] (List.getElem?_eq_getElem hlt)
        have low : ∀ (j : Nat) (q : Nat), q < w.heap.size → ∀ {v : Value}, w.cell? ⟨q, i * 9 + j, none⟩ = some v → wr.cell? ⟨q, i * 9 + j, none⟩ = some v := fun j q hq v h => (hwr.cell (p := ⟨q, i * 9 + j, none⟩) hq).trans h
        have a0 : wr.cell? ⟨g, i * 9, none⟩ = _ := low 0 g hgl (hc 0 _ rfl)
        have b0 : wr.cell? ⟨g', i * 9, none⟩ = _ := low 0 g' hgl' (hc' 0 _ rfl)
        have a1 := low 1 g hgl (hc 1 _ rfl)
        have b1 := low 1 g' hgl' (hc' 1 _ rfl)
        have a2 := low 2 g hgl (hc 2 _ rfl)
        have b2 := low 2 g' hgl' (hc' 2 _ rfl)
        have a3 := low 3 g hgl (hc 3 _ rfl)
        have b3 := low 3 g' hgl' (hc' 3 _ rfl)
        have a4 := low 4 g hgl (hc 4 _ rfl)
        have b4 := low 4 g' hgl' (hc' 4 _ rfl)
        have a5 := low 5 g hgl (hc 5 _ rfl)
        have b5 := low 5 g' hgl' (hc' 5 _ rfl)
        have a6 := low 6 g hgl (hc 6 _ rfl)
        have b6 := low 6 g' hgl' (hc' 6 _ rfl)
        have a7 := low 7 g hgl (hc 7 _ rfl)
        have b7 := low 7 g' hgl' (hc' 7 _ rfl)
        have a8 := low 8 g hgl (hc 8 _ rfl)
        have b8 := low 8 g' hgl' (hc' 8 _ rfl)
        have hq1 := hid (hr1.frame (F' := F) (w' := wr) (fun _ h _ => h) (fun q _ hq => hwr.block q hq))
        have hq2 := hid (hr2.frame (F' := F') (w' := wr) (fun _ h _ => h) (fun q _ hq => hwr.block q hq))
        have hsz1 : SizeOf.sizeOf ps[i] < N := by
          have h1 := List.sizeOf_lt_of_mem (List.getElem_mem hlt)
          simp only [Re.mk.sizeOf_spec] at hN
          omega
        have hgi : (i : Int) < (ps.length : Int) := by omega
        clear hparts hparts' hc hc' low hr1 hr2
        go_wp2
        go_still_tail 10, (by kernel_rfl)
        change wpList _ _ _ _ _ wr.drew
        have hd1 := ReIn.frame (F := F) (F' := F) (w := wr) (w' := wr.drew) (fun _ h _ => h) (fun _ _ _ => rfl) hq1.out
        have hd2 := ReIn.frame (F := F') (F' := F') (w := wr) (w' := wr.drew) (fun _ h _ => h) (fun _ _ _ => rfl) hq2.out
        clear a0 a1 a2 a3 a4 a5 a6 a7 a8 b0 b1 b2 b3 b4 b5 b6 b7 b8
        go_wp2_with (go_at_call 19; refine (IH.out _ hsz1 F F' _ _ _ hd1 hd2).mono ?_; rintro e w3 ⟨rfl, hb3⟩)
        go_roundw
        case rel => exact ⟨i + 1, by omega, by go_num, hb.drew.trans (hb3.mono (by show _ ≤ wr.heap.size; omega))⟩
        case measure => simp [RowKit.intOf]; omega
      · obtain rfl : i = ps.length := by omega
        go_wp2
        go_ret
        exact ⟨rfl, hwr⟩
end Go.Proofs.YtfljcfdfgojdoaaGreatDoor
