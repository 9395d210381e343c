/-
  The contract of dfa.Of.
-/
import Derived.Test.YtfjomnhdmkbkiaaDoorDfQ
import Derived.Test.YtfjomnhdmkbkiaaDoorDfR
import Derived.Test.YtfjomnhdmkbkiaaDoorDfO
import Derived.Test.YtfjomnhdmkbkiaaDoorDf6
import Derived.Laws.CopyRow
namespace Go.Proofs.YtfjomnhdmkbkiaaDoor.Im
open Go.RowKit Go.Lib Go.Maps Go.Shelf

/-- what a body must come to that holds a range over a function, and does not panic -/
def postM (P : Program) (fn : Func) (R : Ending → World → Prop) : Exit → Act → World → Prop
  | .normal, a, w => LeavesInM Fence.wide 5 P fn a.tmps R a.defers .returning w
  | .ret, a, w => LeavesInM Fence.wide 5 P fn a.tmps R a.defers .returning w
  | .outgrown, _, w => R .outgrown w
  | .panic _, _, _ => False
  | .exit _, _, _ => False
  | .goto _, _, _ => False
/-- a call's contract from its body, where the body holds a range over a function -/
theorem calls_marks {P : Program} {f : FuncId} {fn : Func} {c : Code} {args : Array Value} {w : World} {R : Ending → World → Prop} (hf : P.funcs[f]? = some fn) (hb : fn.body = some c)
    (h : c.wp P (postM P fn R) { tmps := args ++ Array.replicate (fn.ntmps - args.size) undef, defers := [] } w) : Calls P f args w R :=
  callsIn_wide.1 (callsIn_of_wp_marks (F := Fence.wide) (n := 5) hf hb trivial (wpIn_wide.2 (wp_mono h fun e a w q => by
    cases e <;> first | exact q | exact q.elim)) rfl)
abbrev markD (D : Nat) : Deferred := { target := .collected D, args := #[] }
theorem leaves_marks {P : Program} {fn : Func} {tmps : Array Value} {R : Ending → World → Prop} : ∀ (Ds : List Nat) (w : World), Ds.Nodup → (∀ D ∈ Ds, w.heap[D]? = some (.deferred (some []))) →
    (∀ w', Turn (fun g => g ∈ Ds) w w' → ∃ v, (results fn tmps).run P w' = .ok v w' ∧ R (.returned v) w') → LeavesInM Fence.wide 5 P fn tmps R (Ds.map markD) .returning w
  | [], w, _, _, h => h w (Turn.refl _ _)
  | D :: Ds, w, hn, hD, h => by
    have h1 := hD D (by simp)
    obtain ⟨n1, n2⟩ := List.nodup_cons.1 hn
    refine ⟨by simp, .inl ⟨D, _, rfl, run_takeDeferred h1, leaves_marks Ds _ n2 (fun E hE => ?_) (fun w' hw' => h w' ?_)⟩⟩
    · exact (World.putObj_heap_other (fun e => n1 (by rw [← e]; exact hE))).trans (hD E (by simp [hE]))
    · have ht : Turn (fun g => g ∈ D :: Ds) w (w.putObj D (.deferred none)) := ⟨rfl, rfl, rfl, by simp, fun g _ hg => World.putObj_heap_other (fun e => hg (by simp [e]))⟩
      exact ht.trans (hw'.mono fun g hg => List.mem_cons_of_mem _ hg)
theorem results_cells {P : Program} {fn : Func} {p q : Tmp} {ty ty' : TypeId} (h : fn.results = #[.cell p ty, .cell q ty']) (tmps : Array Value) (w : World) (g g' : Nat) (t _t' : TypeId) (cs : Array Value) (v : Value) (fr : Nat × Nat) (d : TypeDesc)
    (hp : tmps.getD p undef = .pointer (some ⟨g, 0, none⟩)) (hg : w.heap[g]? = some (.cells cs t fr)) (hq : tmps.getD q undef = .pointer (some ⟨g', 0, none⟩)) (hg' : (loadVar ty' ⟨g', 0, none⟩).run P w = .ok v w)
    (hu : P.underlying ty = some d) (hd : (match d with | .struct _ | .array _ _ => true | _ => false) = true) (hi : (P.info? ty).map (·.size) = some cs.size) :
    (results fn tmps).run P w = .ok (.tuple #[.agg cs, v]) w := by
  have hp' : tmps[p]?.getD undef = .pointer (some ⟨g, 0, none⟩) := by simpa using hp
  have hq' : tmps[q]?.getD undef = .pointer (some ⟨g', 0, none⟩) := by simpa using hq
  simp [results, h, hp', hq', asAddr, run_loadVar_row w g t ty cs fr d hg hu hd hi, hg']
def OfPost (w : World) (x : Except Int Dfa) (e : Ending) (w' : World) : Prop :=
  match x with
  | .error er => e = .returned (.tuple #[.agg #[.slice none 0 0, .slice none 0 0, .slice none 0 0], .int .i64 er]) ∧ Below w.heap.size w w'
  | .ok d => ∃ a b c, e = .returned (.tuple #[.agg #[a, b, c], .int .i64 0]) ∧ DfaIn (fun g => w.heap.size ≤ g ∧ g < w'.heap.size) w' a b c d ∧ Below w.heap.size w w'
/-- the blocks that the call lays first: its argument, its two results -/
structure Fix (w W : World) (s a b c : Value) : Prop where
  arg : W.heap[w.heap.size]? = some (.cells #[s, a, b, c] 25 (0, 0))
  res : W.heap[w.heap.size + 1]? = some (.cells #[.slice none 0 0, .slice none 0 0, .slice none 0 0] 30 (0, 0))
  err : W.heap[w.heap.size + 1 + 1]? = some (.cells #[.int .i64 0] 31 (0, 0))
  below : Below w.heap.size w W
  size : w.heap.size + 3 ≤ W.heap.size
theorem Fix.turn {w W W' : World} {s a b c : Value} {S : Nat → Prop} (h : Fix w W s a b c) (k : Turn S W W') (hS : ∀ g, S g → w.heap.size + 3 ≤ g) : Fix w W' s a b c := by
  have hs := h.size
  have hk := k.size
  have key : ∀ g, g < w.heap.size + 3 → W'.heap[g]? = W.heap[g]? := fun g hg => k.block g (by omega) (fun hS' => by have := hS g hS'; omega)
  exact ⟨(key _ (by omega)).trans h.arg, (key _ (by omega)).trans h.res, (key _ (by omega)).trans h.err, h.below.trans (k.below (by omega) (fun g hg => by have := hS g hg; omega)), by omega⟩
theorem Fix.below' {w W W' : World} {s a b c : Value} (h : Fix w W s a b c) (k : Below W.heap.size W W') : Fix w W' s a b c :=
  h.turn (S := fun _ => False) (Turn.of_below k) (fun _ h => h.elim)
theorem Fix.start (w : World) (s a b c : Value) : Fix w (((w.alloc (.cells #[s, a, b, c] 25)).alloc (.cells #[.slice none 0 0, .slice none 0 0, .slice none 0 0] 30)).alloc (.cells #[.int .i64 0] 31)) s a b c := by
  refine ⟨(alloc_old (by simp; omega)).trans ((alloc_old (by simp)).trans (heap_alloc_new _ _)), (alloc_old (by simp)).trans (newB _ _ _), ?_, (((Below.refl _ _).alloc (Nat.le_refl _) _).alloc (by simp) _).alloc (by simp; omega) _, by simp⟩
  have := newB (w.alloc (.cells #[s, a, b, c] 25)) (.cells #[.slice none 0 0, .slice none 0 0, .slice none 0 0] 30) (.cells #[.int .i64 0] 31)
  rw [World.size_alloc] at this
  exact this
theorem infoDfa : (Tryd.prog.info? 30).map (·.size) = some 3 := by kernel_rfl
theorem err_load (w : World) (g : Nat) (z : Int) (h : w.heap[g]? = some (.cells #[.int .i64 z] 31 (0, 0))) : (loadVar 31 ⟨g, 0, none⟩).run Tryd.prog w = .ok (.int .i64 z) w := by
  have c0 : w.cell? ⟨g, 0, none⟩ = some (.int .i64 z) := cell_blk h rfl
  go_simp
theorem wpList_store_same {P : Program} {ops : Array Oper} {rest : List Oper} {o : Oper} {a : Act} {w : World} {Q : Exit → Act → World → Prop} (hgd : o.guard = none) (ty : TypeId) (x y : Operand) (ho : o.op = .store ty x y)
    (n : Nat) (hi : (P.info? ty).map (·.size) = some n) (g : Nat) (t : TypeId) (cells : Array Value) (hg : w.heap[g]? = some (.cells cells t (0, 0))) (hn : cells.size = n)
    (hx : a.eval x = .pointer (some ⟨g, 0, none⟩)) (hy : a.eval y = .agg cells) (h1 : cells.toList.all (·.oneCell') = true)
    (h : wpList P ops Q rest (a.put o.dst undef) w) : wpList P ops Q (o :: rest) a w :=
  wpList_store_blk hgd ty x y ho n hi g t cells hg hn cells hx hy hn h1 (by rw [setRow_self w g cells t (0, 0) hg]; exact h)
/-- the call leaves with an error -/
theorem of_leaves {w W : World} {s a b c : Value} {er : Int} (h : Fix w W s a b c) {tmps : Array Value} (h2 : tmps.getD 2 undef = .pointer (some ⟨w.heap.size + 1, 0, none⟩)) (h3 : tmps.getD 3 undef = .pointer (some ⟨w.heap.size + 1 + 1, 0, none⟩)) :
    postM Tryd.prog Tryd.f13 (OfPost w (.error er)) Exit.ret { tmps := tmps, defers := [] } (W.setCell ⟨w.heap.size + 1 + 1, 0, none⟩ (.int .i64 er)) := by
  have hb := h.below
  exact ⟨_, results_cells (ty := 30) (ty' := 31) rfl _ _ (w.heap.size + 1) (w.heap.size + 1 + 1) 30 31 _ (.int .i64 er) (0, 0) _ h2 ((heap_setCell_other _ _ _ _ (by simp)).trans h.res) h3 (err_load _ _ _ (box_set _ h.err)) Tryd.underlying30 rfl (by kernel_rfl), rfl, hb.setCell (by simp; omega) _⟩
theorem not_ok {x : Int} (h : x ≠ 0) : (x != 0) = true := by simpa using h
set_option maxRecDepth 100000 in
set_option maxHeartbeats 4000000 in
theorem of_bad {F : Nat → Prop} {w : World} {s a b c : Value} {n : Nfa} (hn : NfaIn F w s a b c n) (hF : ∀ g, F g → g < w.heap.size) (hbad : nfaOk n = false) :
    Calls Tryd.prog 13 #[.agg #[s, a, b, c]] w (OfPost w (.error 1)) := by
  have HN := hid hn
  have HF := hid hF
  have HBAD := hid hbad
  clear hn hF hbad
  refine calls_marks Tryd.func13 rfl ?_
  simp only [Tryd.ntmps13, List.size_toArray, List.length_cons, List.length_nil, Nat.reduceAdd, Nat.reduceSub, Array.replicate_succ, Array.replicate_zero, List.push_toArray, List.append_toArray, List.nil_append, List.cons_append]
  go_wp2_with fail
  have HX := hid (Fix.start w s a b c)
  generalize hW0 : ((w.alloc (.cells #[s, a, b, c] 25)).alloc (.cells #[.slice none 0 0, .slice none 0 0, .slice none 0 0] 30)).alloc (.cells #[.int .i64 0] 31) = W0 at *
  clear hW0
  have hch := ncheck_any (HN.out.frame (F' := F) (w' := W0) (fun _ h => h) (fun g hg _ => HX.out.below.block g (HF.out g hg))) (fun g hg => by have := HF.out g hg; have := HX.out.size; omega)
  rw [HBAD.out] at hch
  refine hch.mono ?_
  rintro e w1 ⟨rfl, hb1⟩
  have HX1 := hid (HX.out.below' hb1)
  clear hch
  have e0 := cell_blk (i := 0) HX1.out.err rfl
  have g0 := free_box (i := 0) HX1.out.err
  go_wp2_with (refine wpList_store_same rfl 30 (.tmp 2) (.tmp 33) rfl 3 infoDfa (w.heap.size + 1) 30 _ HX1.out.res rfl rfl rfl rfl ?_)
  exact of_leaves HX1.out rfl rfl
theorem nfaOk_len {n : Nfa} (h : nfaOk n = true) : 0 ≤ n.states ∧ n.states ≤ 4096 ∧ n.edges.length ≤ 65536 ∧ riseM n.states none n.starts = true ∧ riseM n.states none n.ends = true ∧ ∀ e ∈ n.edges, edgeOk n.states e = true := by
  unfold nfaOk at h
  simp only [Bool.and_eq_true, decide_eq_true_eq, List.all_eq_true] at h
  obtain ⟨⟨⟨⟨⟨h1, h2⟩, h3⟩, h4⟩, h5⟩, h6⟩ := h
  exact ⟨h1, h2, h3, h4, h5, h6⟩
theorem unlike_len : ∀ (es : List Edge) (acc : List Se), (unlikeM acc es).length ≤ acc.length + es.length
  | [], acc => by unfold unlikeM; simp
  | e :: es, acc => by
    rw [unlikeM]
    by_cases h : e.st ∈ acc
    · rw [if_pos h]
      have := unlike_len es acc
      simp; omega
    · rw [if_neg h]
      have := unlike_len es (acc ++ [e.st])
      simp at this
      simp; omega
theorem errOf_yes : errOf true = 0 := rfl
set_option maxRecDepth 100000 in
set_option maxHeartbeats 4000000 in
theorem of_many {F : Nat → Prop} {w : World} {s a b c : Value} {n : Nfa} (hn : NfaIn F w s a b c n) (hF : ∀ g, F g → g < w.heap.size) (hok : nfaOk n = true) (hst : ∀ e ∈ n.edges, e.st.ok) (hmany : 1024 < (unlikeM [] n.edges).length) :
    Calls Tryd.prog 13 #[.agg #[s, a, b, c]] w (OfPost w (.error 2)) := by
  have HN := hid hn
  have HF := hid hF
  have HOK := hid hok
  have HST := hid hst
  have HMANY := hid hmany
  clear hn hF hok hst hmany
  refine calls_marks Tryd.func13 rfl ?_
  simp only [Tryd.ntmps13, List.size_toArray, List.length_cons, List.length_nil, Nat.reduceAdd, Nat.reduceSub, Array.replicate_succ, Array.replicate_zero, List.push_toArray, List.append_toArray, List.nil_append, List.cons_append]
  go_wp2_with fail
  have HX := hid (Fix.start w s a b c)
  generalize hW0 : ((w.alloc (.cells #[s, a, b, c] 25)).alloc (.cells #[.slice none 0 0, .slice none 0 0, .slice none 0 0] 30)).alloc (.cells #[.int .i64 0] 31) = W0 at *
  clear hW0
  have hch := ncheck_any (HN.out.frame (F' := F) (w' := W0) (fun _ h => h) (fun g hg _ => HX.out.below.block g (HF.out g hg))) (fun g hg => by have := HF.out g hg; have := HX.out.size; omega)
  rw [HOK.out, errOf_yes] at hch
  refine hch.mono ?_
  rintro e w1 ⟨rfl, hb1⟩
  have HX1 := hid (HX.out.below' hb1)
  have HE1 := hid (EdgesIn.frame HN.out.edges (F' := F) (w' := w1) (fun _ h => h) (fun g hg _ => HX1.out.below.block g (HF.out g hg)))
  clear hch HX hb1
  have q3 := (ncells HX1.out.arg).2.2.2
  have hul := unlike_any HE1.out (fun g hg => by have := HF.out g hg; have := HX1.out.size; omega) (nfaOk_len HOK.out).2.2.1 HST.out
  go_wp2_with fail
  refine hul.mono ?_
  rintro e w2 ⟨hb2, adu, cpu, rfl, hou⟩
  have HX2 := hid (HX1.out.below' hb2)
  have hpm := parts_many (sets_of_own hou rfl (by have := (nfaOk_len HOK.out).2.2.1; have := unlike_len n.edges []; unfold maxLen; simp at this; omega)) HMANY.out
  clear hul q3 hou
  have e0 := cell_blk (i := 0) HX2.out.err rfl
  have g0 := free_box (i := 0) HX2.out.err
  go_wp2_with (first | (go_at_call 38; refine hpm.mono ?_; rintro e w3 ⟨rfl, rfl⟩) | (refine wpList_store_same rfl 30 (.tmp 2) (.tmp 43) rfl 3 infoDfa (w.heap.size + 1) 30 _ HX2.out.res rfl rfl rfl rfl ?_))
  exact of_leaves HX2.out rfl rfl
end Go.Proofs.YtfjomnhdmkbkiaaDoor.Im
