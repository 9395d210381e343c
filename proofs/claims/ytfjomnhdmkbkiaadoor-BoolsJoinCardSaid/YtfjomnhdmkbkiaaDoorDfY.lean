/-
  For dfa.Of: a region inside a round, walked plainly; the frame of a round; how the call is left.
-/
import Derived.Test.YtfjomnhdmkbkiaaDoorDfX
namespace Go.Proofs.YtfjomnhdmkbkiaaDoor.Im
open Go.RowKit Go.Lib Go.Maps Go.Shelf

theorem ops_round {l n : Nat} {P : Program} {ops : Array Oper} {Q : Exit → Act → World → Prop} (hd : ∀ o ∈ ops, ∀ c, o.op ≠ .defer c) (hno : ¬ LetsOut Q) : ∀ (is : List Nat) (a : Act) (w : World), wpOps P ops Q is a w → wpOpsIn (Fence.wide.inRound l) n P ops Q is a w
  | [], _, _, h => h
  | i :: is, a, w, h => by
    rw [wpOps_cons] at h
    rw [wpOpsIn_cons]
    unfold wpOp at h
    unfold wpOpIn
    cases ho : ops[i]? with
    | none => rw [ho] at h; exact ops_round hd hno is _ _ h
    | some o =>
      rw [ho] at h
      have hm : o ∈ ops := Array.mem_of_getElem? ho
      dsimp only at h ⊢
      by_cases hw : Region.wanted o (yielded ops a.tmps) = true
      · rw [if_pos hw] at h ⊢
        rcases h with h | h
        · exact Oper.wpIn_mono (fun a w h => ops_round hd hno is _ _ h) (op_round (hd o hm) h)
        · exact absurd h.2 hno
      · rw [if_neg hw] at h ⊢
        exact ⟨fun _ _ => trivial, ops_round hd hno is _ _ h⟩
theorem list_round {l n id : Nat} {P : Program} {ops : Array Oper} {Q : Exit → Act → World → Prop} {a : Act} {w : World} (hd : noDefer ops = true) (hno : ¬ LetsOut Q) (h : wpList P ops Q ops.toList a w) : (Code.region id ops false).wpIn (Fence.wide.inRound l) n P Q a w :=
  wpIn_region (ops_round (noDefer_spec hd) hno _ _ _ (by rw [List.range_eq_range', ← Array.length_toList, wpOps_eq_wpList ops.toList 0 (by simp)]; exact h))
theorem wpListIn_store_same {l m : Nat} {P : Program} {ops : Array Oper} {rest : List Oper} {o : Oper} {a : Act} {w : World} {Q : Exit → Act → World → Prop} (hgd : o.guard = none) (ty : TypeId) (x y : Operand) (ho : o.op = .store ty x y)
    (n : Nat) (hi : (P.info? ty).map (·.size) = some n) (g : Nat) (t : TypeId) (cells : Array Value) (hg : w.heap[g]? = some (.cells cells t (0, 0))) (hn : cells.size = n)
    (hx : a.eval x = .pointer (some ⟨g, 0, none⟩)) (hy : a.eval y = .agg cells) (h1 : cells.toList.all (·.oneCell') = true)
    (h : wpListIn (Fence.wide.inRound l) m P ops Q rest (a.put o.dst undef) w) : wpListIn (Fence.wide.inRound l) m P ops Q (o :: rest) a w :=
  wpListIn_plain hgd fun K hK => op_round (fun c e => by rw [ho] at e; cases e) (wp_store_row ty x y ho g cells hx hy t cells hg (by rw [hn]; exact hi) rfl (by rw [← Array.all_toList]; exact h1) (by rw [setRow_self w g cells t (0, 0) hg]; exact hK _ _ h))
theorem putM_err {rows : List (List Int)} {l : List Int} {e : Int} (h : putM rows l = .error e) : e = 2 := by
  unfold putM at h
  split at h
  · cases h
  · split at h
    · cases h; rfl
    · cases h
theorem put_uni {w w' : World} {base T M : Nat} {rv : Value} {Fp : Nat → Prop} {x : Except Int (Nat × List (List Int))} {e : Ending} (h : PutPost w base T M rv Fp x e w') (hx : ∀ er, x = .error er → er = 2) :
    ∃ (kv : Int) (bb : Bool) (ev : Int), e = .returned (.tuple #[.int .i64 kv, .bool bb, .int .i64 ev]) ∧ Turn (TabS T M rv) w w' ∧ (ev = 2 ∧ x = .error 2 ∨ ev = 0 ∧ ∃ (k : Nat) (rows' : List (List Int)) (rv' : Value) (Fp' : Nat → Prop), kv = (k : Int) ∧ x = .ok (k, rows') ∧ TabIn w' base T M rv' rows' Fp' ∧ (∀ g, Fp' g → Fp g ∨ w.heap.size ≤ g) ∧ (rv'.ownBlock = rv.ownBlock ∨ ∃ g, rv'.ownBlock = some g ∧ w.heap.size ≤ g)) := by
  cases x with
  | error er =>
    obtain ⟨h1, h2⟩ := h
    have := hx er rfl
    subst this
    exact ⟨0, false, 2, h1, Turn.of_below h2, .inl ⟨rfl, rfl⟩⟩
  | ok y =>
    obtain ⟨k, rows'⟩ := y
    obtain ⟨b, rv', Fp', h1, h2, h3, h4, h5⟩ := h
    exact ⟨k, b, 0, h1, h5, .inr ⟨rfl, k, rows', rv', Fp', rfl, rfl, h2, h3, h4⟩⟩
/-- the frame of a round of the inner walk -/
def frmB (q : Par) (u : Nat → Value) (B19 B24 Bx : Nat) (c : Int) : Array Value := #[u 0, u 1, .pointer (some ⟨q.w.heap.size + 1, 0, none⟩), .pointer (some ⟨q.w.heap.size + 1 + 1, 0, none⟩), u 4, u 5, u 6, .pointer (some ⟨q.B7, 0, none⟩), u 8, u 9, u 10, u 11, u 12, .pointer (some ⟨q.Bt, 0, none⟩), u 14, u 15, u 16, u 17, u 18, .pointer (some ⟨B19, 0, none⟩), u 20, u 21, u 22, u 23, .pointer (some ⟨B24, 0, none⟩), .int .i64 c, .pointer (some ⟨Bx, 0, none⟩), u 27, u 28, u 29, u 30, u 31, u 32, u 33, u 34, u 35, u 36, u 37, u 38, u 39, u 40, u 41, u 42, u 43, u 44, u 45, u 46, u 47, u 48, u 49, u 50, u 51, u 52, u 53, u 54, u 55, u 56, u 57, u 58, u 59, u 60, u 61, u 62, u 63, u 64, u 65, u 66, u 67, u 68, u 69, u 70, u 71, u 72, u 73, u 74, u 75, u 76, u 77, u 78, u 79, u 80, u 81, u 82, u 83, u 84, u 85, u 86, u 87, u 88, u 89, u 90, u 91, u 92, u 93, u 94, u 95, u 96, u 97, u 98, u 99, u 100, u 101, u 102, u 103, u 104, u 105, u 106, u 107, u 108, u 109, u 110, u 111, u 112, u 113, u 114, u 115, u 116, u 117, u 118, u 119, u 120, u 121, u 122, u 123, u 124, u 125, u 126, u 127, u 128, u 129, u 130, u 131, u 132, u 133, u 134, u 135, u 136, u 137, u 138, u 139, u 140, u 141, u 142, u 143, u 144, u 145, u 146, u 147, u 148, u 149, u 150, u 151, u 152, u 153, u 154, u 155, u 156, u 157, u 158, u 159, u 160, u 161, u 162, u 163, u 164, u 165, u 166, u 167, u 168, u 169, u 170, u 171, u 172, u 173, u 174, u 175, u 176]
theorem frmB_mk {q : Par} {B19 B24 Bx : Nat} {c : Int} {tmps : Array Value} (h : tmps = frmB q (fun i => tmps.getD i undef) B19 B24 Bx c) : ∃ u, ({ tmps := tmps, defers := [] } : Act) = { tmps := frmB q u B19 B24 Bx c, defers := [] } :=
  ⟨_, congrArg (fun t => ({ tmps := t, defers := [] } : Act)) h⟩
theorem ax_mk {q : Par} {B B19 B24 Bx : Nat} {c : Int} {cs : Array Value} {W : World} {tmps : Array Value} (h1 : B ≤ Bx) (h2 : W.heap[Bx]? = some (.cells cs 65 (0, 0))) (h : tmps = frmB q (fun i => tmps.getD i undef) B19 B24 Bx c) :
    ∃ Bx u', B ≤ Bx ∧ W.heap[Bx]? = some (.cells cs 65 (0, 0)) ∧ ({ tmps := tmps, defers := [] } : Act) = { tmps := frmB q u' B19 B24 Bx c, defers := [] } :=
  ⟨Bx, _, h1, h2, congrArg (fun t => ({ tmps := t, defers := [] } : Act)) h⟩
theorem Base.dbox2 {q : Par} {W W2 : World} {Ds : List Nat} {rows next : List (List Int)} {fin : List Bool} {rv nv ev xv : Value} {Fp : Nat → Prop} {o : Obj} {e n : Nat} {xs : List Value} (h : Base q W Ds rows next fin rv nv ev Fp) (hx : W.ownsRow q.Bd e 1 xv n xs) (he : e ≠ 30) (hg : (W.alloc o).grownBy W2 xv.ownBlock) : W2.heap[q.Bd]? = some (.cells #[.slice (some ⟨q.C, 0, none⟩) 256 256, nv, ev] 30 (0, 0)) :=
  (hg.block _ (by have := lt_of_heap h.dbox; simp; omega) (fun e' => by
    obtain ⟨cur, hc⟩ := own_tag hx e'.symm
    rw [h.dbox] at hc; cases hc; exact he rfl)).trans ((alloc_old (lt_of_heap h.dbox)).trans h.dbox)
/-- the call leaves with an error, its marks standing -/
theorem of_stops {w W : World} {Ds : List Nat} {er : Int} {tmps : Array Value} (hres : W.heap[w.heap.size + 1]? = some (.cells #[.slice none 0 0, .slice none 0 0, .slice none 0 0] 30 (0, 0))) (herr : W.heap[w.heap.size + 1 + 1]? = some (.cells #[.int .i64 er] 31 (0, 0)))
    (hb : Below w.heap.size w W) (hn : Ds.Nodup) (hD : ∀ D ∈ Ds, W.heap[D]? = some (.deferred (some []))) (h2 : tmps.getD 2 undef = .pointer (some ⟨w.heap.size + 1, 0, none⟩)) (h3 : tmps.getD 3 undef = .pointer (some ⟨w.heap.size + 1 + 1, 0, none⟩)) (hlow : ∀ D ∈ Ds, w.heap.size ≤ D) :
    postM Tryd.prog Tryd.f13 (OfPost w (.error er)) Exit.ret { tmps := tmps, defers := Ds.map markD } W := by
  refine leaves_marks Ds W hn hD fun w' ht => ?_
  have hk : ∀ g cs t fr, W.heap[g]? = some (Obj.cells cs t fr) → w'.heap[g]? = some (Obj.cells cs t fr) := fun g cs t fr h => (ht.block g (lt_of_heap h) fun hm => by have := hD g hm; rw [h] at this; cases this).trans h
  exact ⟨_, results_cells (ty := 30) (ty' := 31) rfl _ _ (w.heap.size + 1) (w.heap.size + 1 + 1) 30 31 _ (.int .i64 er) (0, 0) _ h2 (hk _ _ _ _ hres) h3 (err_load _ _ _ (hk _ _ _ _ herr)) Tryd.underlying30 rfl (by kernel_rfl), rfl, hb.trans (ht.below hb.size hlow)⟩
theorem bools_of_own {w : World} {base : Nat} {v : Value} {l : List Bool} (h : OwnBools w base v l) (hm : l.length ≤ maxLen) : BoolsIn (fun g => base ≤ g ∧ g < w.heap.size) w v l := by
  obtain ⟨ad, cap, rfl⟩ := own_shape h
  refine ⟨ad, cap, rfl, hm, fun hl => ?_⟩
  rcases h.2 with ⟨_, h0⟩ | ⟨g, cap', cur, e, hb, hg, _⟩
  · exact absurd (List.eq_nil_of_length_eq_zero h0) hl
  · cases e
    refine ⟨g, 0, rfl, ⟨hb, lt_of_heap hg⟩, fun i hi => ⟨.bool l[i], ?_, rfl⟩⟩
    rw [Nat.zero_add, h.cellAt i (by omega), List.getElem?_map, List.getElem?_eq_getElem hi]
    rfl
theorem rows_of_own {w : World} {base : Nat} {v : Value} {vs : List Value} {rows : List (List Int)} (h : w.ownsRow base 22 1 v vs.length vs) (hl : vs.length = rows.length) (hr : ∀ (i : Nat) (v : Value) (l : List Int), vs[i]? = some v → rows[i]? = some l → OwnInts w base v l) (hm : rows.length ≤ maxLen) (hs : ∀ l ∈ rows, l.length ≤ maxLen) : RowsIn (fun g => base ≤ g ∧ g < w.heap.size) w v rows := by
  obtain ⟨ad, cap, rfl⟩ := own_shape h
  refine ⟨ad, cap, by rw [hl], hm, fun hne => ?_⟩
  rcases h.2 with ⟨_, h0⟩ | ⟨g, cap', cur, e, hb, hg, _⟩
  · exact absurd (List.eq_nil_of_length_eq_zero (hl.symm.trans h0)) hne
  · cases e
    refine ⟨g, 0, rfl, ⟨hb, lt_of_heap hg⟩, fun i hi => ⟨vs[i]'(by omega), ?_, ?_⟩⟩
    · rw [Nat.zero_add, h.cellAt i (by omega), List.getElem?_eq_getElem (by omega)]
    · exact ints_of_own (hr i _ _ (List.getElem?_eq_getElem (by omega)) (List.getElem?_eq_getElem hi)) (hs _ (List.getElem_mem hi))
theorem Base.dfa {q : Par} {W W' : World} {Ds : List Nat} {rows next : List (List Int)} {fin : List Bool} {rv nv ev : Value} {Fp : Nat → Prop} {s : Nat} (h : Base q W Ds rows next fin rv nv ev Fp) (hn : Num q s rows next fin) (hq : q.Ok) (hcl : q.cl.length = 256) (hk : ∀ g cs t fr, q.w.heap.size + 3 ≤ g → W.heap[g]? = some (.cells cs t fr) → W'.heap[g]? = some (.cells cs t fr)) (_ : W.heap.size ≤ W'.heap.size) :
    DfaIn (fun g => q.w.heap.size ≤ g ∧ g < W'.heap.size) W' (.slice (some ⟨q.C, 0, none⟩) 256 256) nv ev ⟨q.cl, next, fin⟩ := by
  have h1 := hq.c
  have h2 := hq.gf
  have h3 := hq.b7
  have h4 := hq.eb
  have h5 := hq.m
  have h6 := hq.bt
  have h7 := hq.bd
  have hp := hq.pl
  have hmost := hn.most
  have hle := hn.le
  have hlen := hn.len
  have hflen := hn.flen
  have kk : ∀ {base e n : Nat} {u : Value} {xs : List Value}, q.w.heap.size + 3 ≤ base → W.ownsRow base e 1 u n xs → W'.ownsRow base e 1 u n xs := fun hb hu => own_blk hu fun g hg => by
    obtain ⟨cur, hc⟩ := own_tag hu hg
    rw [hc]
    exact hk g _ _ _ (Nat.le_trans hb (own_lt hu hg).1) hc
  obtain ⟨vs, n1, n2, n3⟩ := h.nxt.ex
  refine ⟨?_, ?_, ?_⟩
  · have := kk h1 h.fixed.cls
    have e : OwnInts W' q.C (.slice (some ⟨q.C, 0, none⟩) 256 256) q.cl := by unfold OwnInts; rw [hcl]; exact this
    exact (ints_of_own e (by rw [hcl]; unfold maxLen; omega)).frame (fun g hg => ⟨by have := hg.1; omega, hg.2⟩) (fun _ _ _ => rfl)
  · exact (rows_of_own (kk (by omega) n1) n2 (fun i v l e1 e2 => kk (by omega) (n3 i v l e1 e2).1) (by unfold maxLen; omega) (fun l hl => by rw [hn.short l hl]; unfold maxLen; omega)).frame (fun g hg => ⟨by have := hg.1; omega, hg.2⟩) (fun _ _ _ => rfl)
  · exact (bools_of_own (kk (by omega) h.fins) (by unfold maxLen; omega)).frame (fun g hg => ⟨by have := hg.1; omega, hg.2⟩) (fun _ _ _ => rfl)
/-- the call leaves with its automaton -/
theorem of_ends {q : Par} {W W' : World} {Ds : List Nat} {rows next : List (List Int)} {fin : List Bool} {rv nv ev : Value} {Fp : Nat → Prop} {s : Nat} {tmps : Array Value} (h : Base q W Ds rows next fin rv nv ev Fp) (hn : Num q s rows next fin) (hq : q.Ok) (hcl : q.cl.length = 256)
    (ht : Turn (fun g => g = q.w.heap.size + 1 ∨ g = q.w.heap.size + 1 + 1) W W') (hres : W'.heap[q.w.heap.size + 1]? = some (.cells #[.slice (some ⟨q.C, 0, none⟩) 256 256, nv, ev] 30 (0, 0))) (herr : W'.heap[q.w.heap.size + 1 + 1]? = some (.cells #[.int .i64 0] 31 (0, 0)))
    (h2 : tmps.getD 2 undef = .pointer (some ⟨q.w.heap.size + 1, 0, none⟩)) (h3 : tmps.getD 3 undef = .pointer (some ⟨q.w.heap.size + 1 + 1, 0, none⟩)) :
    postM Tryd.prog Tryd.f13 (OfPost q.w (.ok ⟨q.cl, next, fin⟩)) Exit.ret { tmps := tmps, defers := Ds.map markD } W' := by
  have h1 := hq.c
  have h4 := hq.gf
  have h5 := hq.b7
  have h6 := hq.eb
  have h7 := hq.m
  have h8 := hq.bt
  have h9 := hq.bd
  have hds : ∀ D ∈ Ds, W'.heap[D]? = some (.deferred (some [])) := fun D hD => (ht.block D (lt_of_heap (h.ds D hD).2) (by have := (h.ds D hD).1; omega)).trans (h.ds D hD).2
  refine leaves_marks Ds W' h.nodup hds fun w' hw => ?_
  have hk : ∀ g cs t fr, W'.heap[g]? = some (Obj.cells cs t fr) → w'.heap[g]? = some (Obj.cells cs t fr) := fun g cs t fr h => (hw.block g (lt_of_heap h) fun hm => by have := hds g hm; rw [h] at this; cases this).trans h
  have hfz := h.fixed.fix.size
  refine ⟨_, results_cells (ty := 30) (ty' := 31) rfl _ _ (q.w.heap.size + 1) (q.w.heap.size + 1 + 1) 30 31 _ (.int .i64 0) (0, 0) _ h2 (hk _ _ _ _ hres) h3 (err_load _ _ _ (hk _ _ _ _ herr)) Tryd.underlying30 rfl (by kernel_rfl), _, _, _, rfl, h.dfa hn hq hcl (fun g cs t fr hg he => hk g cs t fr ((ht.block g (lt_of_heap he) (by omega)).trans he)) (Nat.le_trans ht.size hw.size), ?_⟩
  exact (h.fixed.fix.below.trans (ht.below (by omega) (fun g hg => by omega))).trans (hw.below (by have := ht.size; omega) (fun g hg => by have := (h.ds g hg).1; omega))
theorem keeps_turn {B : Nat} {S : Nat → Prop} {W W' : World} (h : Turn S W W') (hS : ∀ g, S g → g < B ∨ ∃ (cs : Array Value) (t : TypeId) (fr : Nat × Nat), W.heap[g]? = some (Obj.cells cs t fr)) : KeepsFrom B W W' :=
  ⟨h.size, fun i o hB hi ho => (h.block i (lt_of_heap hi) fun hs => by
    rcases hS i hs with h | ⟨cs, t, fr, hc⟩
    · omega
    · rw [hi] at hc; cases hc; cases ho).trans hi⟩
section
variable {q : Par} {W0 : World} {row : List Int} {rows0 : List (List Int)} {rv0 : Value} {Fp0 : Nat → Prop} {Nb : Nat} {pre : List (Cl q.p.length)} {W : World} {rows : List (List Int)} {nx : List Int} {rv : Value} {Fp : Nat → Prop} {w3 w4 : World}
/-- what one Put turns, seen from the walk's begin -/
theorem Mid.turn4 (hm : Turn (S0 q rv0 Nb) W0 W) (e4 : rv.ownBlock = rv0.ownBlock ∨ ∃ g, rv.ownBlock = some g ∧ W0.heap.size ≤ g) (hb : Below W.heap.size W w3) (htu : Turn (TabS (q.M + 1) q.M rv) w3 w4) : Turn (S0 q rv0 Nb) W0 w4 := by
  refine (hm.trans (Turn.of_below hb)).then htu fun g hg => ?_
  rcases hg with hg | hg | hg
  · exact .inl (.inl (.inl hg))
  · exact .inl (.inl (.inr (.inl hg)))
  · rcases e4 with e | ⟨g', e, h⟩
    · rw [e] at hg; exact .inl (.inl (.inr (.inr hg)))
    · rw [e] at hg; cases hg; exact .inr h
theorem Mid.turn2 (e2 : TabIn W q.M (q.M + 1) q.M rv rows Fp) (hb : Below W.heap.size W w3) (htu : Turn (TabS (q.M + 1) q.M rv) w3 w4) : Turn Fp W w4 :=
  (Turn.of_below hb).trans (htu.mono fun g hg => by
    rcases hg with rfl | rfl | hg
    · exact e2.fT
    · exact e2.fM
    · exact e2.fR g hg)
theorem Mid.step (hq : q.Ok) (hm : Turn (S0 q rv0 Nb) W0 W) (e1 : foldC q.n.edges row q.p pre rows0 (List.replicate q.p.length 0) = .ok (rows, nx)) (e2 : TabIn W q.M (q.M + 1) q.M rv rows Fp) (e3 : ∀ g, Fp g → Fp0 g ∨ W0.heap.size ≤ g) (e4 : rv.ownBlock = rv0.ownBlock ∨ ∃ g, rv.ownBlock = some g ∧ W0.heap.size ≤ g)
    (e5 : W.ownsRow q.Bd 3 1 (.slice (some ⟨Nb, 0, none⟩) q.p.length q.p.length) q.p.length (nx.map iV)) (e6 : ∀ r ∈ rows, RowOk q.m r) {x : Cl q.p.length} {k : Nat} {rows' : List (List Int)} {rv' : Value} {Fp' : Nat → Prop} (hb : Below W.heap.size W w3) (htu : Turn (TabS (q.M + 1) q.M rv) w3 w4)
    (hT : TabIn w4 q.M (q.M + 1) q.M rv' rows' Fp') (hF : ∀ g, Fp' g → Fp g ∨ w3.heap.size ≤ g) (hrv : rv'.ownBlock = rv.ownBlock ∨ ∃ g, rv'.ownBlock = some g ∧ w3.heap.size ≤ g) (hp : putM rows (behindM q.n.edges row (q.p[x.1]'x.2)) = .ok (k, rows')) (hk : ¬ 1024 ≤ k) (hN0 : Nb < W0.heap.size) (hNF : ¬ Fp0 Nb) :
    Mid q W0 row rows0 rv0 Fp0 Nb (pre ++ [x]) (w4.setCell ⟨Nb, x.1, none⟩ (.int .i64 (k : Int))) := by
  have hz := hm.size
  have hz3 := hb.size
  have hFN : ¬ Fp Nb := fun h => (e3 _ h).elim hNF (fun h => by omega)
  have hFN' : ¬ Fp' Nb := fun h => (hF _ h).elim hFN (fun h => by omega)
  have hnl := (own_lt e5 rfl).2
  have hTN : ¬ TabS (q.M + 1) q.M rv Nb := fun h => hFN (by
    rcases h with h | h | h
    · rw [h]; exact e2.fT
    · rw [h]; exact e2.fM
    · exact e2.fR _ h)
  have hts : Turn (fun g => g = Nb) w4 (w4.setCell ⟨Nb, x.1, none⟩ (.int .i64 (k : Int))) := Turn.setCell (S := fun g => g = Nb) (Turn.refl _ w4) rfl _
  refine ⟨(Mid.turn4 hm e4 hb htu).setCell (.inr rfl) _, rows', nx.set x.1 (k : Int), rv', Fp', ?_, hT.turn hts (fun g hg e => hFN' (e ▸ hg)), fun g hg => ?_, ?_, ?_, RowOk.put e6 (behind_lt hq.eo) hp⟩
  · rw [foldC_append, e1]
    dsimp only
    rw [foldC, hp]
    dsimp only
    rw [if_neg hk]
    rfl
  · rcases hF g hg with h | h
    · exact e3 g h
    · exact .inr (by omega)
  · rcases hrv with e | ⟨g, e, h⟩
    · rw [e]; exact e4
    · exact .inr ⟨g, e, by omega⟩
  · rw [List.map_set]
    exact own_store _ (own_blk e5 fun g hg => by cases hg; exact (htu.block Nb (by omega) hTN).trans (hb.block Nb hnl))
theorem Bad.step {x : Cl q.p.length} (hm : Turn (S0 q rv0 Nb) W0 w4) (hbad : foldC q.n.edges row q.p (pre ++ [x]) rows0 (List.replicate q.p.length 0) = .error 2) {v : Value} (herr : w4.heap[q.w.heap.size + 1 + 1]? = some (.cells #[v] 31 (0, 0))) :
    Bad q W0 row rows0 rv0 Nb .ret (pre ++ [x]) (w4.setCell ⟨q.w.heap.size + 1 + 1, 0, none⟩ (.int .i64 2)) :=
  ⟨rfl, (hm.mono fun _ hg => .inl hg).setCell (.inr rfl) _, hbad, box_set _ herr⟩
theorem foldC_put_err {x : Cl q.p.length} {e : Int} (e1 : foldC q.n.edges row q.p pre rows0 (List.replicate q.p.length 0) = .ok (rows, nx)) (hp : putM rows (behindM q.n.edges row (q.p[x.1]'x.2)) = .error e) : foldC q.n.edges row q.p (pre ++ [x]) rows0 (List.replicate q.p.length 0) = .error 2 := by
  rw [foldC_append, e1]
  dsimp only
  rw [foldC, hp, putM_err hp]
theorem foldC_put_big {x : Cl q.p.length} {k : Nat} {rows' : List (List Int)} (e1 : foldC q.n.edges row q.p pre rows0 (List.replicate q.p.length 0) = .ok (rows, nx)) (hp : putM rows (behindM q.n.edges row (q.p[x.1]'x.2)) = .ok (k, rows')) (hk : 1024 ≤ k) : foldC q.n.edges row q.p (pre ++ [x]) rows0 (List.replicate q.p.length 0) = .error 2 := by
  rw [foldC_append, e1]
  dsimp only
  rw [foldC, hp]
  dsimp only
  rw [if_pos hk]
end
end Go.Proofs.YtfjomnhdmkbkiaaDoor.Im
