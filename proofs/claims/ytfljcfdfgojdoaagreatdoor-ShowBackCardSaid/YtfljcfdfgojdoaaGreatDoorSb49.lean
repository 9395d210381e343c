/-
  parse.Map where it finds no fault: the contract, for a text of no more than 65536 bytes. (Printed by genPm.py.)
  Plain: what is written of a map is parsed as it was; how long what is written may be, and how deep.
-/
import Derived.Test.YtfljcfdfgojdoaaGreatDoorSb48
namespace Go.Proofs.YtfljcfdfgojdoaaGreatDoor.Sh
open Go.RowKit Go.Lib Go.Proofs.YtfljcfdfgojdoaaGreatDoor

/-- what read[Map] and Map hand back -/
def MapPost (s : ByteArray) (w : World) (r : Mp) (e : Ending) (w' : World) : Prop :=
  Below w.heap.size w w' ∧ ∃ cs, e = .returned (.tuple #[.agg cs, .int .i64 s.size, .int .i64 0]) ∧ MpAt w.heap.size w' r cs
theorem results_ccm {fn : Func} {p q r : Tmp} (h : fn.results = #[.cell p 36, .cell q 3, .cell r 24]) (tmps : Array Value) (w : World) (g g1 g2 : Nat) (t t1 t2 : TypeId) (cs : Array Value) (fr : Nat × Nat)
    (x1 x2 : Value) (hp : tmps.getD p undef = .pointer (some ⟨g, 0, none⟩)) (hg : w.heap[g]? = some (.cells cs t fr))
    (hn : cs.size = 14)
    (hq : tmps.getD q undef = .pointer (some ⟨g1, 0, none⟩)) (hg1 : w.heap[g1]? = some (.cells #[x1] t1 (0, 0)))
    (hr : tmps.getD r undef = .pointer (some ⟨g2, 0, none⟩)) (hg2 : w.heap[g2]? = some (.cells #[x2] t2 (0, 0))) :
    (results fn tmps).run Tryz.prog w = .ok (.tuple #[.agg cs, x1, x2]) w := by
  have hp' : tmps[p]?.getD undef = .pointer (some ⟨g, 0, none⟩) := by simpa using hp
  have hq' : tmps[q]?.getD undef = .pointer (some ⟨g1, 0, none⟩) := by simpa using hq
  have hr' : tmps[r]?.getD undef = .pointer (some ⟨g2, 0, none⟩) := by simpa using hr
  have c1 : w.cell? ⟨g1, 0, none⟩ = some x1 := cell_of_row _ _ 0 _ _ _ hg1
  have c2 : w.cell? ⟨g2, 0, none⟩ = some x2 := cell_of_row _ _ 0 _ _ _ hg2
  have l1 := loadVar3 _ _ _ c1
  have l2 := loadVar28 _ _ _ c2
  simp [results, h, hp', hq', hr', asAddr, run_loadVar_row w g t 36 cs fr _ hg Tryz.underlying36 rfl (by rw [hn]; exact info44), l1, l2]

abbrev mw3of (w : World) : World := ((w.alloc (.cells mpZ 36)).alloc (.cells #[.int .i64 0] 3)).alloc (.cells #[.int .i64 0] 24)
theorem mw3_b0 (w : World) : (mw3of w).heap[w.heap.size]? = some (.cells mpZ 36 (0, 0)) :=
  (alloc_old (by simp; omega)).trans ((alloc_old (by simp)).trans (heap_alloc_new _ _))
theorem mw3_b1 (w : World) : (mw3of w).heap[w.heap.size + 1]? = some (.cells #[.int .i64 0] 3 (0, 0)) := by
  have h := heap_alloc_new (w.alloc (.cells mpZ 36)) (.cells #[.int .i64 0] 3)
  exact (alloc_old (by simp)).trans (by simpa using h)
theorem mw3_b2 (w : World) : (mw3of w).heap[w.heap.size + 2]? = some (.cells #[.int .i64 0] 24 (0, 0)) := by
  have h := heap_alloc_new ((w.alloc (.cells mpZ 36)).alloc (.cells #[.int .i64 0] 3)) (.cells #[.int .i64 0] 24)
  simpa using h
theorem mw3_size (w : World) : (mw3of w).heap.size = w.heap.size + 3 := by simp
theorem mw3_below (w : World) : Below w.heap.size w (mw3of w) := (((Below.refl _ w).alloc (Nat.le_refl _) _).alloc (by simp) _).alloc (by simp; omega) _
theorem mcatch_idle (a b c : Value) (w : World) :
    CallsD Tryz.prog 116 #[a, b, c] .returning w fun e u' w' => e = .returned (.tuple #[]) ∧ u' = .returning ∧ w' = w := by
  refine callsD_of_wpS Tryz.func116 rfl fun c₀ cs hu => ?_
  apply wpS_seq
  apply wpS_region
  simp [wpOpsS, go_sem, recoverD, hu, Tryz.ntmps116, Exit.thenS]
  apply wpS_seq
  apply wpS_region
  simp [wpOpsS, go_sem, recoverD, hu, Exit.thenS]
  refine wpS_cond (t := false) (by simp [Act.eval, Array.replicate]) ?_
  simp only [Bool.false_eq_true, if_false]
  refine wpS_of_wp (wp_skip ?_)
  cases c₀
  simp_all [bodyPostS, results, Tryz.results116]

abbrev mcatchD (n : Nat) : Deferred := { target := .fn (.func 116) #[.pointer (some ⟨n, 0, none⟩), .pointer (some ⟨n + 1, 0, none⟩), .pointer (some ⟨n + 1 + 1, 0, none⟩)], args := #[] }
theorem mleaves_idle (s : ByteArray) (w w7 : World) (r : Mp) (cs : Array Value) (tmps : Array Value) (t4 : tmps.getD 4 undef = .pointer (some ⟨w.heap.size, 0, none⟩)) (t5 : tmps.getD 5 undef = .pointer (some ⟨w.heap.size + 1, 0, none⟩)) (t6 : tmps.getD 6 undef = .pointer (some ⟨w.heap.size + 1 + 1, 0, none⟩))
    (hb : Below w.heap.size w w7) (hc : cs.size = 14) (h0 : w7.heap[w.heap.size]? = some (.cells cs 36 (0, 0))) (h1 : w7.heap[w.heap.size + 1]? = some (.cells #[.int .i64 s.size] 3 (0, 0))) (h2 : w7.heap[w.heap.size + 1 + 1]? = some (.cells #[.int .i64 0] 24 (0, 0))) (hr : MpAt w.heap.size w7 r cs) :
    Leaves Tryz.prog Tryz.f57 tmps (MapPost s w r) [mcatchD w.heap.size] .returning w7 := by
  refine leaves_cons (f := 116) (args := #[.pointer (some ⟨w.heap.size, 0, none⟩), .pointer (some ⟨w.heap.size + 1, 0, none⟩), .pointer (some ⟨w.heap.size + 1 + 1, 0, none⟩)]) (by simp) (by simp [go_sem]) ?_
  refine (mcatch_idle _ _ _ w7).mono ?_
  rintro e u' w'' ⟨rfl, rfl, rfl⟩
  exact ⟨_, results_ccm rfl tmps w'' w.heap.size (w.heap.size + 1) (w.heap.size + 1 + 1) 36 3 24 cs (0, 0) (.int .i64 s.size) (.int .i64 0) t4 h0 hc t5 h1 t6 h2, hb, cs, rfl, hr⟩
set_option maxRecDepth 100000 in
set_option maxHeartbeats 1000000 in
theorem readMp_ok (s : ByteArray) (w : World) (hs : s.size ≤ 65536) {l : List Tok} (hx : allT s = .ok l) {r : Mp} {a : Nat} (hx2 : mAltM (toksOf s l) 33 0 0 = .ok (r, a)) (hkd : ((tokAt (toksOf s l) a).kind != 0) = false) :
    Calls Tryz.prog 57 #[.string s, .func (.func 58) #[] #[]] w (MapPost s w r) := by
  have HX := hid hx
  have HA := hid hx2
  have HK := hid hkd
  clear hx hx2
  have hs2 : s.size ≤ 140737488351232 := by omega
  have e1 : w.heap.size ≠ w.heap.size + 1 := by omega
  have e2 : w.heap.size ≠ w.heap.size + 1 + 1 := by omega
  have e3 : w.heap.size + 1 ≠ w.heap.size + 1 + 1 := by omega
  have hmf : ∀ (fn : Fn) (first cap : Array Value) (w : World), (Instr.makeFunc fn first cap).run Tryz.prog w = .ok (.func fn first cap) w := fun _ _ _ _ => rfl
  obtain ⟨i0, hi, hz0, hz1, hz2⟩ := info_parts info63'
  go_enter_defers Tryz.func57, Tryz.ntmps57
  go_wp2_with (first | (go_at_call 104; refine (all_any s _ hs2).mono ?_; rintro e w1 hp; obtain ⟨hb, hll, v, hown, rfl⟩ := hp.good HX.out; have b0 := (hb.block w.heap.size (by simp; omega)).trans (mw3_b0 w); have b1 := (hb.block (w.heap.size + 1) (by simp)).trans (mw3_b1 w); have b2 := (hb.block (w.heap.size + 1 + 1) (by simp)).trans (mw3_b2 w); have c1 : w1.cell? ⟨w.heap.size + 1, 0, none⟩ = some (.int .i64 0) := cell_of_row _ _ 0 _ _ _ b1; have c2 : w1.cell? ⟨w.heap.size + 1 + 1, 0, none⟩ = some (.int .i64 0) := cell_of_row _ _ 0 _ _ _ b2; have f1 := frozen_of_row _ _ 0 _ _ b1; have f2 := frozen_of_row _ _ 0 _ _ b2; have HO := hid (ownsRow_setCell_below (ownsRow_setCell_below hown (a := ⟨w.heap.size + 1, 0, none⟩) (by simp) (.int .i64 s.size)) (a := ⟨w.heap.size + 1 + 1, 0, none⟩) (by simp) (.int .i64 0)); have hsz1 := hb.size; simp only [World.size_alloc] at hsz1; clear hp hown) | (at_builtin; go_loud (have hc1 := news_blk (two_new w1 ⟨w.heap.size + 1, 0, none⟩ ⟨w.heap.size + 1 + 1, 0, none⟩ (.int .i64 s.size) (.int .i64 0) (.cells (endC s) 139)); have hc3 : l.length + 1 ≤ maxLen := (by unfold maxLen; omega); have hc5 : (mw3of w).heap.size ≤ (((w1.setCell ⟨w.heap.size + 1, 0, none⟩ (.int .i64 s.size)).setCell ⟨w.heap.size + 1 + 1, 0, none⟩ (.int .i64 0)).alloc (.cells (endC s) 139)).heap.size := (by have := hb.size; simp at *; omega); refine wpList_append_lies _ rfl (.tmp 20) (.tmp 24) 135 rfl (mw3of w).heap.size 139 i0 _ 8 72 Tryz.underlying135 hi hz0 hz1 hz2 rfl (by decide) _ _ _ rfl (HO.out.alloc _) ⟨w1.heap.size, 0, none⟩ 1 1 (endC s).toList rfl rfl hc1 (one_of_all rfl) Nat.one_pos hc3 (by omega) hc5 (w1.heap.size + 1) (by simp) ?_)))
  intro g cap w5 ho hg _ hlt
  have hz0 := Pz.start (s := s) ho (by omega)
  have hns : w.heap.size + 3 ≤ w5.heap.size := by have := hg.size; simp [World.setCell] at this; omega
  have hlow : ∀ k, k < w.heap.size + 3 → (w5.alloc (.cells #[.slice (some ⟨g, 0, none⟩) (l.length + 1) cap, .int .i64 0, .int .i64 0] 141)).heap[k]? = ((w1.setCell ⟨w.heap.size + 1, 0, none⟩ (.int .i64 s.size)).setCell ⟨w.heap.size + 1 + 1, 0, none⟩ (.int .i64 0)).heap[k]? := fun k hk =>
    (alloc_old (by omega)).trans ((hg.block k (by simp [World.setCell]; omega) (fun e => by have := own_block HO.out e.symm; simp at this; omega)).trans (alloc_old (by simp [World.setCell]; omega)))
  have q0 := (hlow w.heap.size (by omega)).trans ((heap_setCell_other _ _ _ _ e2).trans ((heap_setCell_other _ _ _ _ e1).trans b0))
  have q1 := (hlow (w.heap.size + 1) (by omega)).trans ((heap_setCell_other _ _ _ _ e3).trans (heap_setCell_same _ _ 0 _ _ _ b1))
  have q2 := (hlow (w.heap.size + 1 + 1) (by omega)).trans (heap_setCell_same _ _ 0 _ _ _ ((heap_setCell_other _ _ _ _ (Ne.symm e3)).trans b2))
  have qb : Below w.heap.size w (w5.alloc (.cells #[.slice (some ⟨g, 0, none⟩) (l.length + 1) cap, .int .i64 0, .int .i64 0] 141)) := by
    refine ((((((mw3_below w).trans (hb.mono (by simp; omega))).setCell (by dsimp only; omega) (p := ⟨w.heap.size + 1, 0, none⟩) (.int .i64 s.size)).setCell (by dsimp only; omega) (p := ⟨w.heap.size + 1 + 1, 0, none⟩) (.int .i64 0)).alloc (by simp [World.setCell]; omega) (.cells (endC s) 139)).grown hg (by simp [World.setCell]; omega) (fun k hk => by have := own_block HO.out hk; simp at this; omega)).alloc (by omega) _
  have hgn : w.heap.size + 3 ≤ g := by have := own_block ho (g := g) rfl; omega
  clear hlow b0 b1 b2 c1 c2 f1 f2 HO hc1 hc5 hc3 hg hlt ho hb
  have hn0 : some w.heap.size ≠ some w5.heap.size := fun e => by have := Option.some.inj e; omega
  have hn1 : some (w.heap.size + 1) ≠ some w5.heap.size := fun e => by have := Option.some.inj e; omega
  have hn2 : some (w.heap.size + 1 + 1) ≠ some w5.heap.size := fun e => by have := Option.some.inj e; omega
  have hT : (toksOf s l).length = l.length + 1 := by simp [toksOf]
  have hl0 := (Array.getElem?_eq_some_iff.1 q0).1
  have hl1 := (Array.getElem?_eq_some_iff.1 q1).1
  have hl2 := (Array.getElem?_eq_some_iff.1 q2).1
  generalize hw6 : w5.alloc (.cells #[.slice (some ⟨g, 0, none⟩) (l.length + 1) cap, .int .i64 0, .int .i64 0] 141) = w6 at *
  have hbp : w.heap.size ≤ w5.heap.size := by omega
  have hq0 := field0
  have ngb : g ≠ w.heap.size := by omega
  have nbp : w5.heap.size ≠ w.heap.size := by omega
  go_wp2_with (first | (go_at_call 58; refine ((map_all (toksOf s l) 33).go (by decide) hz0).mono ?_; rintro e w7 hp; obtain ⟨hk7, hl7, hz7, cs, rfl, hr⟩ := hp.good HA.out; obtain ⟨z, rfl⟩ := hr.mw; have p0 := hid ((hk7.block _ hl0 hn0).trans q0); have p1 := hid ((hk7.block _ hl1 hn1).trans q1); have p2 := hid ((hk7.block _ hl2 hn2).trans q2); have s7 := hk7.size; clear hp) | (go_at_call 106; refine (tok_any (hz7.setRow nbp ngb z.cs)).mono ?_; rintro e w8 ⟨rfl, hb8⟩; simp only [Tok.cells]; have b80 := hid ((hb8.block w.heap.size (by simp; omega)).trans (setRow_heap p0.out z.cs)); have b81 := hid ((hb8.block (w.heap.size + 1) (by simp; omega)).trans ((setRow_other z.cs (Ne.symm e1)).trans p1.out)); have b82 := hid ((hb8.block (w.heap.size + 1 + 1) (by simp; omega)).trans ((setRow_other z.cs (Ne.symm e2)).trans p2.out)); have d1 : (w8.setRow w.heap.size z.cs).cell? ⟨w.heap.size + 1, 0, none⟩ = some (.int .i64 s.size) := cell_of_row _ _ 0 _ _ _ ((setRow_other z.cs (Ne.symm e1)).trans b81.out); have d2 : (w8.setRow w.heap.size z.cs).cell? ⟨w.heap.size + 1 + 1, 0, none⟩ = some (.int .i64 0) := cell_of_row _ _ 0 _ _ _ ((setRow_other z.cs (Ne.symm e2)).trans b82.out); have f1 := frozen_of_row _ _ 0 _ _ ((setRow_other z.cs (Ne.symm e1)).trans b81.out); have f2 := frozen_of_row _ _ 0 _ _ ((setRow_other z.cs (Ne.symm e2)).trans b82.out)) | (refine wpList_load_blk rfl 36 (.tmp 4) rfl 14 info44 _ Tryz.underlying36 rfl w.heap.size rfl 36 z.cs b80.out rfl ?_) | (refine wpList_store_blk rfl 36 (.tmp 4) (.tmp 38) rfl 14 info44 w.heap.size 36 z.cs b80.out rfl z.cs rfl rfl rfl rfl ?_) | (refine wpList_store_blk rfl 36 (.tmp 4) (.tmp 31) rfl 14 info44 w.heap.size 36 mpZ p0.out rfl z.cs rfl rfl rfl rfl ?_))
  have hb7 : Below w.heap.size w w7 := below_of_kept qb hk7 hbp
  have hb8' : Below w.heap.size w w8 := ⟨hb8.os.trans hb7.os, hb8.tape.trans hb7.tape, hb8.output.trans hb7.output, Nat.le_trans hb7.size (by have := hb8.size; simpa using this), fun k hk => (hb8.block k (by simp; omega)).trans ((setRow_other _ (by omega)).trans (hb7.block k hk))⟩
  refine mleaves_idle s w _ r z.cs _ rfl rfl rfl ?_ rfl ?_ ?_ ?_ ?_
  · refine Below.setCell (Below.setCell (Below.row hb8' (Nat.le_refl _) _) ?_ _) ?_ _
    all_goals (dsimp only; omega)
  · exact (heap_setCell_other _ _ _ _ e2).trans ((heap_setCell_other _ _ _ _ e1).trans (setRow_heap b80.out _))
  · exact (heap_setCell_other _ _ _ _ e3).trans (heap_setCell_same _ _ 0 _ _ _ ((setRow_other _ (Ne.symm e1)).trans b81.out))
  · exact heap_setCell_same _ _ 0 _ _ _ ((heap_setCell_other _ _ _ _ (Ne.symm e3)).trans ((setRow_other _ (Ne.symm e2)).trans b82.out))
  · refine hr.frame (fun k hk _ => by omega) (fun k hk hl => ?_)
    exact (heap_setCell_other _ _ _ _ (by dsimp only; omega)).trans ((heap_setCell_other _ _ _ _ (by dsimp only; omega)).trans ((setRow_other _ (by omega)).trans ((hb8.block k (by simp; omega)).trans (setRow_other _ (by omega)))))

set_option maxRecDepth 100000 in
set_option maxHeartbeats 1000000 in
theorem parseMap_any (s : ByteArray) (w : World) (hs : s.size ≤ 65536) {l : List Tok} (hx : allT s = .ok l) {r : Mp} {a : Nat} (hx2 : mAltM (toksOf s l) 33 0 0 = .ok (r, a)) (hkd : ((tokAt (toksOf s l) a).kind != 0) = false) :
    Calls Tryz.prog 22 #[.string s] w (MapPost s w r) := by
  have h0 : ∀ {w1 : World}, Below (w.alloc (.cells mpZ 36)).heap.size (w.alloc (.cells mpZ 36)) w1 → w1.heap[w.heap.size]? = some (.cells mpZ 36 (0, 0)) := fun hb => (hb.block _ (by simp)).trans (heap_alloc_new _ _)
  have hlow : ∀ {w1 : World} (cs : Array Value), Below (w.alloc (.cells mpZ 36)).heap.size (w.alloc (.cells mpZ 36)) w1 → Below w.heap.size w (w1.setRow w.heap.size cs) := fun cs hb => Below.row (((Below.refl _ w).alloc (Nat.le_refl _) _).trans (hb.mono (by simp))) (Nat.le_refl _) cs
  have hr0 := fun W => readMp_ok s W hs hx hx2 hkd
  have HR := hid hr0
  clear hr0 hx hx2 hkd
  go_enter Tryz.func22, Tryz.ntmps22
  go_wp2_with (first | (go_at_call 57; refine (HR.out _).mono ?_; rintro e w1 ⟨hb, cs, rfl, hr⟩; obtain ⟨z, rfl⟩ := hr.mw) | (refine wpList_store_blk rfl 36 (.tmp 2) (.tmp 7) rfl 14 info44 w.heap.size 36 mpZ (h0 hb) rfl z.cs rfl rfl rfl rfl ?_))
  refine bodyPost_ret (results_cell3 rfl _ _ w.heap.size 36 _ (0, 0) _ rfl (setRow_heap (h0 hb) _) Tryz.underlying36 rfl info44) rfl ?_
  refine ⟨hlow _ hb, ?_⟩
  refine ⟨_, rfl, hr.frame (fun g hg _ => by simp at hg; omega) (fun g hg _ => setRow_other _ (by simp at hg; omega))⟩
end Go.Proofs.YtfljcfdfgojdoaaGreatDoor.Sh

namespace Go.Proofs.YtfljcfdfgojdoaaGreatDoor.Sh
open Go.RowKit Go.Lib Go.Proofs.YtfljcfdfgojdoaaGreatDoor

/-- P8.3: a written map is parsed as it was -/
theorem mp_back {h : Nat} {r : Mp} (hr : OkMp h r) (hs : SeMp r) (hd : mpD r ≤ 32) (hl : (mpW setS r).length ≤ 65536) :
    ∃ l a, allT ⟨(mpW setS r).toArray⟩ = .ok l ∧ mAltM (toksOf ⟨(mpW setS r).toArray⟩ l) 33 0 0 = .ok (r, a) ∧ ((tokAt (toksOf ⟨(mpW setS r).toArray⟩ l) a).kind != 0) = false := by
  have h1 := lex_mp h r hr hs [] [] .nil .nil
  rw [List.append_nil, List.append_nil] at h1
  obtain ⟨ts, h2, h3⟩ := lexes_allT (s := ⟨(mpW setS r).toArray⟩) (ms := mpT r) (by simpa using h1) (by show (mpW setS r).toArray.size ≤ _; simpa using hl)
  have hbb : (mpT r).map Tok.base = mpT r := by
    rw [← h3, List.map_map]
    refine List.map_congr_left fun t _ => ?_
    cases t; rfl
  have hlen : ts.length = (mpT r).length := by rw [← h3]; simp
  have hlast : (tokAt (toksOf ⟨(mpW setS r).toArray⟩ ts) ts.length).kind = 0 := by
    have : tokAt (toksOf ⟨(mpW setS r).toArray⟩ ts) ts.length = endTok ⟨(mpW setS r).toArray⟩ := tokAt_of (by unfold toksOf; simp)
    rw [this]; rfl
  have hTl : (toksOf ⟨(mpW setS r).toArray⟩ ts).length = ts.length + 1 := by unfold toksOf; simp
  have hta : TA (toksOf ⟨(mpW setS r).toArray⟩ ts) 0 (mpT r) := by
    have := ta_of (l := mpT r) (ts := ts) (pre := []) (post := [endTok ⟨(mpW setS r).toArray⟩]) (by rw [h3, hbb])
    simpa [toksOf] using this
  refine ⟨ts, ts.length, h2, ?_, by rw [hlast]; rfl⟩
  generalize toksOf ⟨(mpW setS r).toArray⟩ ts = T at *
  have ea : maskT r 0 = mpT r := by unfold maskT; rw [if_neg (by omega)]
  have ed : maskD r 0 = mpD r := by unfold maskD; rw [if_neg (by omega)]; rfl
  have hg := good_mp T h r hr 0 (by omega) 0 0 32 (by rw [ed]; omega) (by omega) (by rw [ea]; exact hta) (by rw [ea]; omega) (by rw [ea, Nat.zero_add, ← hlen]; exact MNx.ends (.fin hlast))
  rw [ea, Nat.zero_add] at hg
  rw [Mq_alt 32 T, hg, hlen]
-- how deep
theorem reD_le : ∀ (h : Nat) (r : Re), OkRe h r → reD r ≤ 2 * h
  | 0, r, hr => by simp [OkRe] at hr
  | h + 1, .mk k x s ps mn mx, hr => by
    have hr' : Node k x s ps.length mn mx ∧ ∀ p ∈ ps, OkRe h p := by simpa [OkRe] using hr
    have key : ∀ (n : Nat) (l : List Re), (∀ p ∈ l, reD p ≤ 2 * h) → partsD n l ≤ 2 * h + 1 := by
      intro n l
      induction l with
      | nil => intro _; rw [partsD]; omega
      | cons q l ih =>
        intro hl
        rw [partsD]
        have h1 := hl q List.mem_cons_self
        have h2 := ih fun p hp => hl p (List.mem_cons_of_mem _ hp)
        have h3 : (if lev q < n then 1 else 0) ≤ 1 := by split <;> omega
        omega
    have h1 := key (needK k) ps fun p hp => reD_le h p (hr'.2 p hp)
    rw [reD]
    have h2 : (if k = 7 then 1 else 0) ≤ 1 := by split <;> omega
    omega
theorem mpD_le : ∀ (h : Nat) (r : Mp), OkMp h r → mpD r ≤ h
  | 0, r, hr => by simp [OkMp] at hr
  | h + 1, .mk k r o ps mn mx, hr => by
    have hr' : MNode k r o ps.length mn mx ∧ ∀ p ∈ ps, OkMp h p := by simpa [OkMp] using hr
    have key : ∀ (n : Nat) (l : List Mp), (∀ p ∈ l, mpD p ≤ h) → mpartsD n l ≤ h + 1 := by
      intro n l
      induction l with
      | nil => intro _; rw [mpartsD]; omega
      | cons q l ih =>
        intro hl
        rw [mpartsD]
        have h1 := hl q List.mem_cons_self
        have h2 := ih fun p hp => hl p (List.mem_cons_of_mem _ hp)
        have h3 : (if mlev q < n then 1 else 0) ≤ 1 := by split <;> omega
        omega
    rw [mpD]
    exact key (mneedK k) ps fun p hp => mpD_le h p (hr'.2 p hp)
-- how long
mutual
def nodes : Re → Nat
  | .mk _ _ _ ps _ _ => 1 + nodesL ps
def nodesL : List Re → Nat
  | [] => 0
  | r :: l => nodes r + nodesL l
end
theorem setS_len (s : Se) : (setS s).length ≤ 2500 := by
  unfold setS
  split
  · simp
  · unfold setP
    have h1 := rows_len (rowsTo (fun b => !hasS s b) 256)
    have h2 := rows_len (rowsTo (hasS s) 256)
    have h3 := rowsTo_len (fun b => !hasS s b) 256
    have h4 := rowsTo_len (hasS s) 256
    split
    · simp only [List.length_append, List.length_cons, List.length_nil]; omega
    · simp only [List.length_append, List.length_cons, List.length_nil]; omega
theorem leafW_len {k : Int} {x : List B} {s : Se} {n : Nat} {mn mx : Int} (h : Node k x s n mn mx) : (leafW setS k x s).length ≤ 2500 := by
  have h1 := textW_len x
  have h2 := setS_len s
  have h3 : x.length ≤ 256 := by cases h <;> first | assumption | (simp; done) | omega
  unfold leafW
  split
  · omega
  · split
    · exact h2
    · split
      · omega
      · simp
theorem sep_len (k : Int) : (sepK k).length ≤ 3 := by
  unfold sepK
  split
  · simp
  · split
    · simp
    · split <;> simp
theorem parts_len {sep : List B} {asked : Nat} (hsep : sep.length ≤ 3) : ∀ (l : List Re), (∀ p ∈ l, (reW setS p).length + 10 ≤ 3000 * nodes p) → (tailW setS sep asked l).length ≤ 3000 * nodesL l ∧ (partsW setS sep asked l).length ≤ 3000 * nodesL l
  | [], _ => by rw [tailW, partsW]; simp
  | p :: l, h => by
    obtain ⟨h1, _⟩ := parts_len (asked := asked) hsep l fun q hq => h q (List.mem_cons_of_mem _ hq)
    have h2 := h p List.mem_cons_self
    have h3 : (askW setS p asked).length ≤ (reW setS p).length + 2 := by
      unfold askW
      split
      · simp
      · omega
    rw [tailW, partsW]
    have e : (if lev p < asked then 40 :: (reW setS p ++ [41]) else reW setS p) = askW setS p asked := rfl
    rw [e]
    unfold nodesL
    simp only [List.length_append]
    omega
theorem reW_len : ∀ (h : Nat) (r : Re), OkRe h r → (reW setS r).length + 10 ≤ 3000 * nodes r
  | 0, r, hr => by simp [OkRe] at hr
  | h + 1, .mk k x s ps mn mx, hr => by
    have hr' : Node k x s ps.length mn mx ∧ ∀ p ∈ ps, OkRe h p := by simpa [OkRe] using hr
    have ih := fun p hp => reW_len h p (hr'.2 p hp)
    have h1 := leafW_len hr'.1
    have h2 := (parts_len (sep := []) (asked := 3) (by simp) ps ih).2
    have h3 := (parts_len (sep := []) (asked := 5) (by simp) ps ih).2
    have h4 := (parts_len (asked := needK k) (sep_len k) ps ih).2
    have h5 := oftenW_len mn mx
    rw [reW]
    unfold nodes
    split
    · rw [List.length_cons]; omega
    · split
      · rw [List.length_append]; omega
      · split
        · omega
        · omega
mutual
def mnodes : Mp → Nat
  | .mk _ _r _ ps _ _ => 1 + mnodesL ps
def mnodesL : List Mp → Nat
  | [] => 0
  | r :: l => mnodes r + mnodesL l
end
theorem mparts_len {sep : List B} {asked : Nat} (hsep : sep.length ≤ 3) : ∀ (l : List Mp), (∀ p ∈ l, (mpW setS p).length + 10 ≤ 6000 * mnodes p) → (mtailW setS sep asked l).length ≤ 6000 * mnodesL l ∧ (mpartsW setS sep asked l).length ≤ 6000 * mnodesL l
  | [], _ => by rw [mtailW, mpartsW]; simp
  | p :: l, h => by
    obtain ⟨h1, _⟩ := mparts_len (asked := asked) hsep l fun q hq => h q (List.mem_cons_of_mem _ hq)
    have h2 := h p List.mem_cons_self
    have h3 : (maskW setS p asked).length ≤ (mpW setS p).length + 2 := by
      unfold maskW
      split
      · simp
      · omega
    rw [mtailW, mpartsW]
    have e : (if mlev p < asked then 40 :: (mpW setS p ++ [41]) else mpW setS p) = maskW setS p asked := rfl
    rw [e]
    unfold mnodesL
    simp only [List.length_append]
    omega
theorem leafr_len {r : Re} (h : LeafR r) : (leafOf setS r).length ≤ 2500 := by
  obtain ⟨k, x, s, hn, _⟩ := h
  exact leafW_len hn
theorem mpW_len : ∀ (h : Nat) (r : Mp), OkMp h r → (mpW setS r).length + 10 ≤ 6000 * mnodes r
  | 0, r, hr => by simp [OkMp] at hr
  | h + 1, .mk k r o ps mn mx, hr => by
    have hr' : MNode k r o ps.length mn mx ∧ ∀ p ∈ ps, OkMp h p := by simpa [OkMp] using hr
    have ih := fun p hp => mpW_len h p (hr'.2 p hp)
    have h2 := (mparts_len (sep := [32]) (asked := 2) (by simp) ps ih).2
    have h3 := (mparts_len (sep := [32, 124, 32]) (asked := 1) (by simp) ps ih).2
    have h4 := (mparts_len (sep := []) (asked := 3) (by simp) ps ih).2
    have h5 := oftenW_len mn mx
    have h6 := textW_len o
    obtain ⟨hn, _⟩ := hr'
    generalize ps.length = n at hn
    rw [mpW]
    unfold mnodes
    cases hn with
    | same r h => have := leafr_len h; simp; omega
    | out r o h ho => have := leafr_len h; simp; omega
    | cat n h => simp; omega
    | alt n h => simp; omega
    | rep a b h => simp; omega
end Go.Proofs.YtfljcfdfgojdoaaGreatDoor.Sh
