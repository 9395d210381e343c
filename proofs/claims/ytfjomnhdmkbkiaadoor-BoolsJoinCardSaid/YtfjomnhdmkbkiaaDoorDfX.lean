/-
  For dfa.Of: what stands in memory between two rounds of its outer loop.
-/
import Derived.Test.YtfjomnhdmkbkiaaDoorDfW
namespace Go.Proofs.YtfjomnhdmkbkiaaDoor.Im
open Go.RowKit Go.Lib Go.Maps Go.Shelf

structure Par where
  w : World
  n : Nfa
  p : List Se
  cl : List Int
  adp : Option Addr
  cpp : Nat
  ada : Option Addr
  cpa : Nat
  adb : Option Addr
  cpb : Nat
  adc : Option Addr
  cpc : Nat
  C : Nat
  gf : Nat
  B7 : Nat
  Eb : Nat
  M : Nat
  Bt : Nat
  Bd : Nat
  m : Nat
structure Par.Ok (q : Par) : Prop where
  c : q.w.heap.size + 3 ≤ q.C
  gf : q.C < q.gf
  b7 : q.gf < q.B7
  eb : q.B7 < q.Eb
  m : q.Eb < q.M
  bt : q.M + 1 < q.Bt
  bd : q.Bt < q.Bd
  m4 : q.m ≤ 4096
  el : q.n.edges.length ≤ 65536
  eo : ∀ e ∈ q.n.edges, 0 ≤ e.dst ∧ e.dst < (q.m : Int)
  pl : q.p.length ≤ 256
  po : ∀ s ∈ q.p, s.ok
  tab : Tab q.w
structure Fixed (q : Par) (W : World) : Prop where
  fix : Fix q.w W (.int .i64 q.n.states) (.slice q.ada q.n.starts.length q.cpa) (.slice q.adb q.n.ends.length q.cpb) (.slice q.adc q.n.edges.length q.cpc)
  cls : W.ownsRow q.C 3 1 (.slice (some ⟨q.C, 0, none⟩) 256 256) 256 (q.cl.map iV)
  sets : SetsIn (fun g => q.w.heap.size + 3 ≤ g ∧ g < q.C) W (.slice q.adp q.p.length q.cpp) q.p
  fb : W.heap[q.B7]? = some (.cells #[.slice (some ⟨q.gf, 0, none⟩) q.m q.m] 62 (0, 0))
  fr : FromIn (fun g => q.gf ≤ g ∧ g < q.Eb) W (.slice (some ⟨q.gf, 0, none⟩) q.m q.m) (froms q.m q.n.edges)
  ends : W.ownsRow q.Eb 4 1 (.slice (some ⟨q.Eb, 0, none⟩) q.m q.m) q.m (marks q.m q.n.ends)
  bt : W.heap[q.Bt]? = some (.cells #[.pointer (some ⟨q.M + 1, 0, none⟩)] 68 (0, 0))
theorem Fixed.turn {q : Par} {W W' : World} {S : Nat → Prop} (h : Fixed q W) (hq : q.Ok) (k : Turn S W W') (hS : ∀ g, S g → g = q.M ∨ g = q.M + 1 ∨ q.Bt < g) : Fixed q W' := by
  have hb := lt_of_heap h.bt
  have h1 := hq.c
  have h2 := hq.gf
  have h3 := hq.b7
  have h4 := hq.eb
  have h5 := hq.m
  have h6 := hq.bt
  have key : ∀ g, g ≤ q.Eb → W'.heap[g]? = W.heap[g]? := fun g hg => k.block g (by omega) (fun hs => by have := hS g hs; omega)
  refine ⟨h.fix.turn k (fun g hs => by have := hS g hs; omega), own_blk h.cls fun g hg => ?_, SetsIn.frame h.sets (fun _ h => h) (fun g hg _ => key g (by have := hg.2; omega)), (key _ (by omega)).trans h.fb, FromIn.frame h.fr (fun _ h => h) (fun g hg _ => key g (by have := hg.2; omega)), own_blk h.ends fun g hg => ?_, (k.block _ hb (fun hs => by have := hS _ hs; omega)).trans h.bt⟩
  · cases hg; exact key q.C (by omega)
  · cases hg; exact key _ (Nat.le_refl _)
theorem Fixed.tab {q : Par} {W : World} (h : Fixed q W) (hq : q.Ok) : Tab W := hq.tab.below h.fix.below
/-- the rows that the call has made -/
structure NextIn (W : World) (B : Nat) (nv : Value) (next : List (List Int)) (Fp : Nat → Prop) : Prop where
  ex : ∃ vs, W.ownsRow B 22 1 nv vs.length vs ∧ vs.length = next.length ∧ ∀ (i : Nat) (v : Value) (l : List Int), vs[i]? = some v → next[i]? = some l → OwnInts W B v l ∧ ∀ g, v.ownBlock = some g → ¬ Fp g
  nv : ∀ g, nv.ownBlock = some g → ¬ Fp g
theorem NextIn.keep {W W' : World} {B : Nat} {nv : Value} {next : List (List Int)} {Fp Fp' : Nat → Prop} (h : NextIn W B nv next Fp) (hk : ∀ g, B ≤ g → g < W.heap.size → ¬ Fp g → (∀ cs t fr, W.heap[g]? = some (.cells cs t fr) → t = 3 ∨ t = 22) → W'.heap[g]? = W.heap[g]?) (hF : ∀ g, g < W.heap.size → Fp' g → Fp g) : NextIn W' B nv next Fp' := by
  obtain ⟨vs, h1, h2, h3⟩ := h.ex
  refine ⟨⟨vs, own_blk h1 fun g hg => hk g (own_lt h1 hg).1 (own_lt h1 hg).2 (h.nv g hg) (fun cs t fr he => ?_), h2, fun i v l e1 e2 => ?_⟩, fun g hg hf => h.nv g hg (hF g (own_lt h1 hg).2 hf)⟩
  · obtain ⟨cur, hc⟩ := own_tag h1 hg
    rw [hc] at he; cases he; exact .inr rfl
  · obtain ⟨h4, h5⟩ := h3 i v l e1 e2
    refine ⟨own_blk h4 fun g hg => hk g (own_lt h4 hg).1 (own_lt h4 hg).2 (h5 g hg) (fun cs t fr he => ?_), fun g hg hf => h5 g hg (hF g (own_lt h4 hg).2 hf)⟩
    obtain ⟨cur, hc⟩ := own_tag h4 hg
    rw [hc] at he; cases he; exact .inl rfl
abbrev OwnBools (W : World) (B : Nat) (ev : Value) (fin : List Bool) : Prop := W.ownsRow B 4 1 ev fin.length (fin.map Value.bool)
structure Base (q : Par) (W : World) (Ds : List Nat) (rows next : List (List Int)) (fin : List Bool) (rv nv ev : Value) (Fp : Nat → Prop) : Prop where
  fixed : Fixed q W
  dbox : W.heap[q.Bd]? = some (.cells #[.slice (some ⟨q.C, 0, none⟩) 256 256, nv, ev] 30 (0, 0))
  tab : TabIn W q.M (q.M + 1) q.M rv rows Fp
  fp : ∀ g, Fp g → g = q.M ∨ g = q.M + 1 ∨ (q.Bt < g ∧ g ≠ q.Bd)
  nxt : NextIn W q.Bd nv next Fp
  fins : OwnBools W q.Bd ev fin
  ev : ∀ g, ev.ownBlock = some g → ¬ Fp g
  nodup : Ds.Nodup
  ds : ∀ D ∈ Ds, q.Bd < D ∧ W.heap[D]? = some (.deferred (some []))
  ok : ∀ r ∈ rows, RowOk q.m r
structure Num (q : Par) (s : Nat) (rows next : List (List Int)) (fin : List Bool) : Prop where
  most : rows.length ≤ 1024
  len : next.length = s
  flen : fin.length = s
  le : s ≤ rows.length
  short : ∀ l ∈ next, l.length = q.p.length
  hist : ofFrom q.n q.p (1026 - s) s rows next fin = ofFrom q.n q.p 1026 0 [sortU q.n.starts] [] []
theorem Base.apart {q : Par} {W : World} {Ds : List Nat} {rows next : List (List Int)} {fin : List Bool} {rv nv ev : Value} {Fp : Nat → Prop} (h : Base q W Ds rows next fin rv nv ev Fp) (hq : q.Ok) : ∀ D ∈ Ds, ¬ Fp D := fun D hD hF => by
  obtain ⟨h1, h2⟩ := h.ds D hD
  have := hq.bt
  have := hq.bd
  rcases h.tab.kind D hF with rfl | ⟨cs, t, hc⟩
  · omega
  · rw [hc] at h2; cases h2
theorem Base.below {q : Par} {W W' : World} {Ds : List Nat} {rows next : List (List Int)} {fin : List Bool} {rv nv ev : Value} {Fp : Nat → Prop} (h : Base q W Ds rows next fin rv nv ev Fp) (hq : q.Ok) (k : Below W.heap.size W W') : Base q W' Ds rows next fin rv nv ev Fp :=
  ⟨h.fixed.turn hq (S := fun _ => False) (Turn.of_below k) (fun _ h => h.elim), (k.block _ (lt_of_heap h.dbox)).trans h.dbox, h.tab.below k, h.fp, h.nxt.keep (fun g _ hg _ _ => k.block g hg) (fun _ _ h => h), own_later h.fins k, h.ev, h.nodup, fun D hD => ⟨(h.ds D hD).1, (k.block _ (lt_of_heap (h.ds D hD).2)).trans (h.ds D hD).2⟩, h.ok⟩
/-- the loop's end -/
theorem Num.last {q : Par} {s : Nat} {rows next : List (List Int)} {fin : List Bool} (h : Num q s rows next fin) (hs : ¬ s < rows.length) : ofFrom q.n q.p 1026 0 [sortU q.n.starts] [] [] = .ok (next, fin) := by
  have h1 := h.hist
  have h2 := h.most
  have h3 := h.le
  rw [show 1026 - s = (1025 - s) + 1 by omega, ofFrom, if_neg hs] at h1
  exact h1.symm
theorem Num.bad {q : Par} {s : Nat} {rows next : List (List Int)} {fin : List Bool} (h : Num q s rows next fin) (hs : s < rows.length) {e : Int} (he : nextM q.n.edges rows[s] rows q.p = .error e) : ofFrom q.n q.p 1026 0 [sortU q.n.starts] [] [] = .error e := by
  have h1 := h.hist
  have h2 := h.most
  rw [show 1026 - s = (1025 - s) + 1 by omega, ofFrom, if_pos hs, List.getD_eq_getElem?_getD, List.getElem?_eq_getElem hs] at h1
  simp only [Option.getD_some, he] at h1
  exact h1.symm
theorem Num.good {q : Par} {s : Nat} {rows next : List (List Int)} {fin : List Bool} (h : Num q s rows next fin) (hs : s < rows.length) {l : List Int} {rows' : List (List Int)} (he : nextM q.n.edges rows[s] rows q.p = .ok (l, rows')) : Num q (s + 1) rows' (next ++ [l]) (fin ++ [rows[s].any fun x => decide (x ∈ q.n.ends)]) := by
  have h1 := h.hist
  have h2 := h.most
  obtain ⟨⟨t, ht⟩, h3, h4, _⟩ := nextM_law _ _ _ _ _ _ he h2
  rw [show 1026 - s = (1025 - s) + 1 by omega, ofFrom, if_pos hs, List.getD_eq_getElem?_getD, List.getElem?_eq_getElem hs] at h1
  simp only [Option.getD_some, he] at h1
  exact ⟨h3, by rw [List.length_append, h.len]; rfl, by rw [List.length_append, h.flen]; rfl, by rw [ht, List.length_append]; omega, fun r hr => (List.mem_append.1 hr).elim (h.short r) (fun hr => by rw [List.mem_singleton.1 hr]; exact h4), by rw [← h1, show 1026 - (s + 1) = 1025 - s by omega]⟩
/-- what the blocks that the table's walk turns are -/
def S0 (q : Par) (rv : Value) (Nb : Nat) (g : Nat) : Prop := TabS (q.M + 1) q.M rv g ∨ g = Nb
/-- the inner walk, some classes having come -/
structure Mid (q : Par) (W0 : World) (row : List Int) (rows0 : List (List Int)) (rv0 : Value) (Fp0 : Nat → Prop) (Nb : Nat) (pre : List (Cl q.p.length)) (W : World) : Prop where
  turn : Turn (S0 q rv0 Nb) W0 W
  ex : ∃ rows nx rv Fp, foldC q.n.edges row q.p pre rows0 (List.replicate q.p.length 0) = .ok (rows, nx) ∧ TabIn W q.M (q.M + 1) q.M rv rows Fp ∧ (∀ g, Fp g → Fp0 g ∨ W0.heap.size ≤ g) ∧ (rv.ownBlock = rv0.ownBlock ∨ ∃ g, rv.ownBlock = some g ∧ W0.heap.size ≤ g) ∧
    W.ownsRow q.Bd 3 1 (.slice (some ⟨Nb, 0, none⟩) q.p.length q.p.length) q.p.length (nx.map iV) ∧ ∀ r ∈ rows, RowOk q.m r
theorem Mid.own {q : Par} {W0 : World} {row : List Int} {rows0 : List (List Int)} {rv0 : Value} {Fp0 : Nat → Prop} {Nb : Nat} (hM : q.M < W0.heap.size) : OwnFrom W0.heap.size (Mid q W0 row rows0 rv0 Fp0 Nb) := fun pre W W' r h hg hr => by
  obtain ⟨rows, nx, rv, Fp, e1, e2, e3, e4, e5, e6⟩ := h.ex
  exact ⟨h.turn.from hg hr, rows, nx, rv, Fp, e1, e2.from hM hg hr, e3, e4, own_from e5 hg hr, e6⟩
/-- the inner walk has left with an error -/
structure Bad (q : Par) (W0 : World) (row : List Int) (rows0 : List (List Int)) (rv0 : Value) (Nb : Nat) (c : Code) (pre : List (Cl q.p.length)) (W : World) : Prop where
  ret : c = .ret
  turn : Turn (fun g => S0 q rv0 Nb g ∨ g = q.w.heap.size + 1 + 1) W0 W
  bad : foldC q.n.edges row q.p pre rows0 (List.replicate q.p.length 0) = .error 2
  err : W.heap[q.w.heap.size + 1 + 1]? = some (.cells #[.int .i64 2] 31 (0, 0))
theorem Bad.own {q : Par} {W0 : World} {row : List Int} {rows0 : List (List Int)} {rv0 : Value} {Nb : Nat} {c : Code} : OwnFrom W0.heap.size (Bad q W0 row rows0 rv0 Nb c) := fun pre W W' r h hg hr => by
  refine ⟨h.ret, h.turn.from hg hr, h.bad, (hg.block _ (lt_of_heap h.err) fun e => ?_).trans h.err⟩
  obtain ⟨_, o, h2, h3⟩ := hr _ e.symm
  have := h.err
  rw [h2] at this; cases this; cases h3
/-- all classes have come -/
theorem Base.mid {q : Par} {Wa W0 W1 : World} {Ds : List Nat} {rows next : List (List Int)} {fin : List Bool} {rv nv ev : Value} {Fp : Nat → Prop} {row : List Int} {Nb D : Nat} (h : Base q Wa Ds rows next fin rv nv ev Fp) (hq : q.Ok) (k : Below Wa.heap.size Wa W0) (hN : Wa.heap.size ≤ Nb) (hN0 : Nb < W0.heap.size)
    (hm : Mid q W0 row rows rv Fp Nb (allC q.p.length) W1) (hD : W0.heap.size ≤ D) (hD1 : W1.heap[D]? = some (.deferred (some []))) :
    ∃ rows' nx rv' Fp', nextM q.n.edges row rows q.p = .ok (nx, rows') ∧ Base q W1 (D :: Ds) rows' next fin rv' nv ev Fp' ∧ W1.ownsRow q.Bd 3 1 (.slice (some ⟨Nb, 0, none⟩) q.p.length q.p.length) q.p.length (nx.map iV) ∧ nx.length = q.p.length ∧ ¬ Fp' Nb := by
  obtain ⟨rows', nx, rv', Fp', e1, e2, e3, e4, e5, e6⟩ := hm.ex
  have hbd := lt_of_heap h.dbox
  have hks := k.size
  have h1 := hq.bt
  have h2 := hq.bd
  have htu : Turn (TabS (q.M + 1) q.M rv) Wa W1 := (Turn.of_below k).then hm.turn fun g hg => by
    rcases hg with hg | rfl
    · exact .inl hg
    · exact .inr hN
  have hT : ∀ g, TabS (q.M + 1) q.M rv g → Fp g := fun g hg => by
    rcases hg with rfl | rfl | hg
    · exact h.tab.fT
    · exact h.tab.fM
    · exact h.tab.fR g hg
  have hF : ∀ g, g < Wa.heap.size → Fp' g → Fp g := fun g hg hf => (e3 g hf).elim id fun h' => by omega
  have hsame : ∀ g, g < Wa.heap.size → ¬ Fp g → W1.heap[g]? = Wa.heap[g]? := fun g hg hf => htu.block g hg fun hs => hf (hT g hs)
  have hnbd : ¬ Fp q.Bd := fun hf => by have := h.fp _ hf; omega
  refine ⟨rows', nx, rv', Fp', ?_, ⟨h.fixed.turn hq htu (fun g hg => by have := h.fp g (hT g hg); omega), (hsame _ hbd hnbd).trans h.dbox, e2, fun g hg => ?_, h.nxt.keep (fun g _ hg hf _ => hsame g hg hf) hF, own_blk h.fins (fun g hg => hsame g (own_lt h.fins hg).2 (h.ev g hg)), fun g hg hf => h.ev g hg (hF g (own_lt h.fins hg).2 hf), ?_, ?_, e6⟩, e5, ?_, ?_⟩
  · rw [foldC_all] at e1
    cases hn : nextM q.n.edges row rows q.p with
    | error e => rw [hn] at e1; cases e1
    | ok y => rw [hn] at e1; obtain ⟨l, r⟩ := y; cases e1; rfl
  · rcases e3 g hg with hg | hg
    · exact h.fp g hg
    · exact .inr (.inr (by omega))
  · refine List.nodup_cons.2 ⟨fun hm => ?_, h.nodup⟩
    have := lt_of_heap (h.ds D hm).2
    omega
  · intro E hE
    rcases List.mem_cons.1 hE with rfl | hE
    · exact ⟨by omega, hD1⟩
    · exact ⟨(h.ds E hE).1, (hsame E (lt_of_heap (h.ds E hE).2) (h.apart hq E hE)).trans (h.ds E hE).2⟩
  · have := foldC_len e1; simpa using this
  · intro hf
    rcases e3 _ hf with hf | hf
    · have := (h.tab.lt _ hf).2; omega
    · omega
theorem append_get {α : Type} {l : List α} {x y : α} {i : Nat} (h : (l ++ [x])[i]? = some y) : l[i]? = some y ∨ (i = l.length ∧ y = x) := by
  by_cases hi : i < l.length
  · rw [List.getElem?_append_left hi] at h; exact .inl h
  · rw [List.getElem?_append_right (by omega)] at h
    have := (List.getElem?_eq_some_iff.1 h).1
    simp at this
    obtain rfl : i = l.length := by omega
    simp at h
    exact .inr ⟨rfl, h.symm⟩
theorem Base.addNext {q : Par} {W W2 : World} {Ds : List Nat} {rows next : List (List Int)} {fin : List Bool} {rv nv ev nv' v : Value} {Fp : Nat → Prop} {vs : List Value} {o : Obj} {l : List Int} (h : Base q W Ds rows next fin rv nv ev Fp) (hq : q.Ok)
    (hvs : W.ownsRow q.Bd 22 1 nv vs.length vs) (hlen : vs.length = next.length) (hrows : ∀ (i : Nat) (v : Value) (l : List Int), vs[i]? = some v → next[i]? = some l → OwnInts W q.Bd v l ∧ ∀ g, v.ownBlock = some g → ¬ Fp g)
    (hv : OwnInts W q.Bd v l) (hvF : ∀ g, v.ownBlock = some g → ¬ Fp g) (hown : W2.ownsRow q.Bd 22 1 nv' (vs.length + 1) (vs ++ [v])) (hg : (W.alloc o).grownBy W2 nv.ownBlock) (hat : nv'.ownBlock = nv.ownBlock ∨ nv'.ownBlock = some (W.alloc o).heap.size) :
    Base q (W2.setCell ⟨q.Bd, 1, none⟩ nv') Ds rows (next ++ [l]) fin rv nv' ev Fp := by
  have hbd := lt_of_heap h.dbox
  have h1 := hq.bt
  have h2 := hq.bd
  have hnb : nv.ownBlock ≠ some q.Bd := fun e => by
    obtain ⟨cur, hc⟩ := own_tag hvs e
    rw [h.dbox] at hc; cases hc
  have hd2 : W2.heap[q.Bd]? = some (.cells #[.slice (some ⟨q.C, 0, none⟩) 256 256, nv, ev] 30 (0, 0)) := (hg.block _ (by simp; omega) (fun e => hnb e.symm)).trans ((alloc_old hbd).trans h.dbox)
  have htu : Turn (fun g => g = q.Bd ∨ nv.ownBlock = some g) W (W2.setCell ⟨q.Bd, 1, none⟩ nv') := (((Turn.refl _ W).alloc o).grown hg (fun g e => .inr e)).setCell (.inl rfl) _
  have hsame : ∀ g, g < W.heap.size → g ≠ q.Bd → nv.ownBlock ≠ some g → (W2.setCell ⟨q.Bd, 1, none⟩ nv').heap[g]? = W.heap[g]? := fun g hg h3 h4 => htu.block g hg fun h5 => h5.elim h3 h4
  have tagD : ∀ {base e n : Nat} {u : Value} {xs : List Value}, W.ownsRow base e 1 u n xs → e ≠ 30 → ∀ g, u.ownBlock = some g → g ≠ q.Bd := fun hu he g hg e => by
    obtain ⟨cur, hc⟩ := own_tag hu hg
    rw [e, h.dbox] at hc; cases hc; exact he rfl
  have hints : ∀ {u : Value} {xs : List Int}, OwnInts W q.Bd u xs → OwnInts (W2.setCell ⟨q.Bd, 1, none⟩ nv') q.Bd u xs := fun hu => own_blk hu fun g hg => hsame g (own_lt hu hg).2 (tagD hu (by decide) g hg) (own_apart hu hvs (by decide) g hg)
  refine ⟨h.fixed.turn hq htu (fun g hg => ?_), three_set1 _ hd2, h.tab.turn htu (fun g hg hs => ?_), h.fp, ⟨⟨vs ++ [v], ?_, by simp [hlen], fun i u xs e1 e2 => ?_⟩, fun g hg => ?_⟩, own_blk h.fins (fun g hg => hsame g (own_lt h.fins hg).2 (tagD h.fins (by decide) g hg) (own_apart h.fins hvs (by decide) g hg)), h.ev, h.nodup, fun D hD => ⟨(h.ds D hD).1, (hsame D (lt_of_heap (h.ds D hD).2) (by have := (h.ds D hD).1; omega) (fun e => ?_)).trans (h.ds D hD).2⟩, h.ok⟩
  · rcases hg with rfl | hg
    · exact .inr (.inr h2)
    · have := (own_lt hvs hg).1; omega
  · rcases hs with rfl | hs
    · have := h.fp _ hg; omega
    · exact h.nxt.nv g hs hg
  · have := own_set (i := 1) (u := nv') hown hd2 (by decide)
    rw [List.length_append]
    exact this
  · rcases append_get e1 with e1 | ⟨rfl, rfl⟩
    · have hi := (List.getElem?_eq_some_iff.1 e1).1
      rw [List.getElem?_append_left (by omega)] at e2
      exact ⟨hints (hrows i u xs e1 e2).1, (hrows i u xs e1 e2).2⟩
    · rw [hlen, List.getElem?_append_right (Nat.le_refl _), Nat.sub_self] at e2
      cases e2
      exact ⟨hints hv, hvF⟩
  · rcases hat with e | e
    · rw [e] at hg; exact h.nxt.nv g hg
    · rw [e] at hg; cases hg
      intro hf
      have := (h.tab.lt _ hf).2
      simp at this
      omega
  · obtain ⟨cur, hc⟩ := own_tag hvs e
    rw [(h.ds D hD).2] at hc; cases hc
theorem Base.addFin {q : Par} {W W2 : World} {Ds : List Nat} {rows next : List (List Int)} {fin : List Bool} {rv nv ev ev' : Value} {Fp : Nat → Prop} {o : Obj} {x : Bool} (h : Base q W Ds rows next fin rv nv ev Fp) (hq : q.Ok)
    (hown : W2.ownsRow q.Bd 4 1 ev' (fin.length + 1) (fin.map Value.bool ++ [.bool x])) (hg : (W.alloc o).grownBy W2 ev.ownBlock) (hat : ev'.ownBlock = ev.ownBlock ∨ ev'.ownBlock = some (W.alloc o).heap.size) :
    Base q (W2.setCell ⟨q.Bd, 2, none⟩ ev') Ds rows next (fin ++ [x]) rv nv ev' Fp := by
  have hbd := lt_of_heap h.dbox
  have h1 := hq.bt
  have h2 := hq.bd
  have hvs := h.fins
  have hnb : ev.ownBlock ≠ some q.Bd := fun e => by
    obtain ⟨cur, hc⟩ := own_tag hvs e
    rw [h.dbox] at hc; cases hc
  have hd2 : W2.heap[q.Bd]? = some (.cells #[.slice (some ⟨q.C, 0, none⟩) 256 256, nv, ev] 30 (0, 0)) := (hg.block _ (by simp; omega) (fun e => hnb e.symm)).trans ((alloc_old hbd).trans h.dbox)
  have htu : Turn (fun g => g = q.Bd ∨ ev.ownBlock = some g) W (W2.setCell ⟨q.Bd, 2, none⟩ ev') := (((Turn.refl _ W).alloc o).grown hg (fun g e => .inr e)).setCell (.inl rfl) _
  have hsame : ∀ g, g < W.heap.size → g ≠ q.Bd → ev.ownBlock ≠ some g → (W2.setCell ⟨q.Bd, 2, none⟩ ev').heap[g]? = W.heap[g]? := fun g hg h3 h4 => htu.block g hg fun h5 => h5.elim h3 h4
  refine ⟨h.fixed.turn hq htu (fun g hg => ?_), three_set2 _ hd2, h.tab.turn htu (fun g hg hs => ?_), h.fp, h.nxt.keep (fun g _ hg _ ht => hsame g hg (fun e => ?_) (fun e => ?_)) (fun _ _ h => h), ?_, fun g hg => ?_, h.nodup, fun D hD => ⟨(h.ds D hD).1, (hsame D (lt_of_heap (h.ds D hD).2) (by have := (h.ds D hD).1; omega) (fun e => ?_)).trans (h.ds D hD).2⟩, h.ok⟩
  · rcases hg with rfl | hg
    · exact .inr (.inr h2)
    · have := (own_lt hvs hg).1; omega
  · rcases hs with rfl | hs
    · have := h.fp _ hg; omega
    · exact h.ev g hs hg
  · rw [e] at ht
    have := ht _ _ _ h.dbox
    revert this; decide
  · obtain ⟨cur, hc⟩ := own_tag hvs e
    have := ht _ _ _ hc
    revert this; decide
  · have := own_set (i := 2) (u := ev') hown hd2 (by decide)
    unfold OwnBools
    rw [List.length_append, List.map_append]
    exact this
  · rcases hat with e | e
    · rw [e] at hg; exact h.ev g hg
    · rw [e] at hg; cases hg
      intro hf
      have := (h.tab.lt _ hf).2
      simp at this
      omega
  · obtain ⟨cur, hc⟩ := own_tag hvs e
    rw [(h.ds D hD).2] at hc; cases hc
/-- the frame at the head of the outer loop -/
def frm (q : Par) (u : Nat → Value) (s : Nat) : Array Value := #[u 0, .pointer (some ⟨q.w.heap.size, 0, none⟩), .pointer (some ⟨q.w.heap.size + 1, 0, none⟩), .pointer (some ⟨q.w.heap.size + 1 + 1, 0, none⟩), .slice q.adp q.p.length q.cpp, u 5, u 6, .pointer (some ⟨q.B7, 0, none⟩), u 8, u 9, .slice (some ⟨q.Eb, 0, none⟩) q.m q.m, u 11, u 12, .pointer (some ⟨q.Bt, 0, none⟩), u 14, u 15, u 16, .pointer (some ⟨q.Bd, 0, none⟩), .int .i64 s, u 19, u 20, u 21, u 22, u 23, u 24, u 25, u 26, u 27, u 28, u 29, u 30, u 31, u 32, u 33, u 34, u 35, u 36, u 37, u 38, u 39, u 40, u 41, u 42, u 43, u 44, u 45, u 46, u 47, u 48, u 49, u 50, u 51, u 52, u 53, u 54, u 55, u 56, u 57, u 58, u 59, u 60, u 61, u 62, u 63, u 64, u 65, u 66, u 67, u 68, u 69, u 70, u 71, u 72, u 73, u 74, u 75, u 76, u 77, u 78, u 79, u 80, u 81, u 82, u 83, u 84, u 85, u 86, u 87, u 88, u 89, u 90, u 91, u 92, u 93, u 94, u 95, u 96, u 97, u 98, u 99, u 100, u 101, u 102, u 103, u 104, u 105, u 106, u 107, u 108, u 109, u 110, u 111, u 112, u 113, u 114, u 115, u 116, u 117, u 118, u 119, u 120, u 121, u 122, u 123, u 124, u 125, u 126, u 127, u 128, u 129, u 130, u 131, u 132, u 133, u 134, u 135, u 136, u 137, u 138, u 139, u 140, u 141, u 142, u 143, u 144, u 145, u 146, u 147, u 148, u 149, u 150, u 151, u 152, u 153, u 154, u 155, u 156, u 157, u 158, u 159, u 160, u 161, u 162, u 163, u 164, u 165, u 166, u 167, u 168, u 169, u 170, u 171, u 172, u 173, u 174, u 175, u 176]
def Rel (q : Par) (s : Nat) (Ds : List Nat) (W : World) : Prop := ∃ rows next fin rv nv ev Fp, Base q W Ds rows next fin rv nv ev Fp ∧ Num q s rows next fin
def AtLoop (q : Par) (a : Act) (W : World) : Prop := ∃ (u : Nat → Value) (s : Nat) (Ds : List Nat), a = { tmps := frm q u s, defers := Ds.map markD } ∧ Rel q s Ds W
theorem AtLoop.mk {q : Par} {tmps : Array Value} {s : Nat} {Ds : List Nat} {ds : List Deferred} {W : World} (h : tmps = frm q (fun i => tmps.getD i undef) s) (hd : ds = Ds.map markD) (hr : Rel q s Ds W) : AtLoop q { tmps := tmps, defers := ds } W := by
  subst hd
  exact ⟨_, s, Ds, congrArg (fun t => ({ tmps := t, defers := Ds.map markD } : Act)) h, hr⟩
end Go.Proofs.YtfjomnhdmkbkiaaDoor.Im
