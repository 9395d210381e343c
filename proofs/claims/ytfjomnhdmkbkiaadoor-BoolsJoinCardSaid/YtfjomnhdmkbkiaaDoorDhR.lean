/-
  whittleref11.Of, and the walk of DfaMakes.
-/
import Derived.Test.YtfjomnhdmkbkiaaDoorDhP
import Derived.Test.YtfjomnhdmkbkiaaDoorDfX
import Derived.Test.YtfjomnhdmkbkiaaDoorDhQ
import Derived.Test.YtfjomnhdmkbkiaaDoorDfY
import Derived.Test.YtfjomnhdmkbkiaaDoorDfZ
import Derived.Test.YtfjomnhdmkbkiaaDoorDgG
namespace Go.Proofs.YtfjomnhdmkbkiaaDoor.Im
open Go.RowKit Go.Lib Go.Maps

theorem own_max {w : World} {base e size n : Nat} {v : Value} {xs : List Value} (h : w.ownsRow base e size v n xs) : n ≤ maxLen := by
  rcases h.2 with ⟨_, rfl⟩ | ⟨g, cap, cur, _, _, _, h1, h2, _⟩
  · exact Nat.zero_le _
  · omega
/-- rows whose first one is another's, the others of the call's own memory -/
structure RowsOf (W : World) (B : Nat) (sv rv : Value) (rows : List (List Int)) (Fp : Nat → Prop) : Prop where
  ex : ∃ vs, W.ownsRow B 22 1 rv vs.length vs ∧ vs.length = rows.length ∧ vs[0]? = some sv ∧ ∀ (i : Nat) (v : Value) (l : List Int), vs[i + 1]? = some v → rows[i + 1]? = some l → OwnInts W B v l ∧ ∀ g, v.ownBlock = some g → ¬ Fp g
  rv : ∀ g, rv.ownBlock = some g → ¬ Fp g
theorem RowsOf.keep {W W' : World} {B : Nat} {sv rv : Value} {rows : List (List Int)} {Fp Fp' : Nat → Prop} (h : RowsOf W B sv rv rows Fp) (hk : ∀ g, B ≤ g → g < W.heap.size → ¬ Fp g → (∀ cs t fr, W.heap[g]? = some (.cells cs t fr) → t = 3 ∨ t = 22) → W'.heap[g]? = W.heap[g]?) (hF : ∀ g, g < W.heap.size → Fp' g → Fp g) : RowsOf W' B sv rv rows Fp' := by
  obtain ⟨vs, h1, h2, h0, h3⟩ := h.ex
  refine ⟨⟨vs, own_blk h1 fun g hg => hk g (own_lt h1 hg).1 (own_lt h1 hg).2 (h.rv g hg) (fun cs t fr he => ?_), h2, h0, fun i v l e1 e2 => ?_⟩, fun g hg hf => h.rv g hg (hF g (own_lt h1 hg).2 hf)⟩
  · obtain ⟨cur, hc⟩ := own_tag h1 hg
    rw [hc] at he; cases he; exact .inr rfl
  · obtain ⟨h4, h5⟩ := h3 i v l e1 e2
    refine ⟨own_blk h4 fun g hg => hk g (own_lt h4 hg).1 (own_lt h4 hg).2 (h5 g hg) (fun cs t fr he => ?_), fun g hg hf => h5 g hg (hF g (own_lt h4 hg).2 hf)⟩
    obtain ⟨cur, hc⟩ := own_tag h4 hg
    rw [hc] at he; cases he; exact .inl rfl
theorem RowsOf.below {W W' : World} {B : Nat} {sv rv : Value} {rows : List (List Int)} {Fp : Nat → Prop} (h : RowsOf W B sv rv rows Fp) (hb : Below W.heap.size W W') : RowsOf W' B sv rv rows Fp :=
  h.keep (fun g _ hg _ _ => hb.block g hg) fun _ _ h => h
theorem RowsOf.shape {W : World} {B : Nat} {sv rv : Value} {rows : List (List Int)} {Fp : Nat → Prop} (h : RowsOf W B sv rv rows Fp) : rows.length ≤ maxLen ∧ ∃ ad cap, rv = .slice ad rows.length cap := by
  obtain ⟨vs, h1, h2, _⟩ := h.ex
  obtain ⟨a, c, rfl⟩ := own_shape h1
  exact ⟨h2 ▸ own_max h1, a, c, by rw [h2]⟩
/-- a row's value, and what is in it -/
theorem RowsOf.at' {W : World} {B : Nat} {F : Nat → Prop} {sv : Value} {ad : Option Addr} {n cap : Nat} {rows : List (List Int)} {Fp : Nat → Prop} (h : RowsOf W B sv (.slice ad n cap) rows Fp) (h0 : ∀ l, rows[0]? = some l → IntsIn F W sv l) (hF : ∀ g, F g → g < W.heap.size) {i : Nat} (hi : i < rows.length) :
    ∃ g v, ad = some ⟨g, 0, none⟩ ∧ W.cell? ⟨g, i, none⟩ = some v ∧ IntsIn (fun g => g < W.heap.size) W v rows[i] := by
  obtain ⟨vs, h1, h2, h3, h4⟩ := h.ex
  have hn : vs.length = n := by obtain ⟨a, c, e⟩ := own_shape h1; cases e; rfl
  subst hn
  obtain ⟨g, cap', e, _⟩ := h1.form (by omega)
  cases e
  have hiv : i < vs.length := by omega
  refine ⟨g, vs[i], rfl, by rw [h1.cellAt i (by omega), List.getElem?_eq_getElem hiv], ?_⟩
  match i, hi, hiv with
  | 0, hi, hiv =>
    rw [List.getElem?_eq_getElem hiv] at h3
    rw [Option.some.inj h3]
    exact (h0 _ (List.getElem?_eq_getElem hi)).frame hF fun _ _ _ => rfl
  | i + 1, hi, hiv =>
    have := (h4 i _ _ (List.getElem?_eq_getElem hiv) (List.getElem?_eq_getElem hi)).1
    exact (ints_of_own this (own_max this)).frame (fun g hg => hg.2) fun _ _ _ => rfl
/-- one more row -/
theorem RowsOf.snoc {W W2 : World} {B : Nat} {sv rv rv' v : Value} {rows : List (List Int)} {Fp : Nat → Prop} {vs : List Value} {o : Obj} {l : List Int} (h : RowsOf W B sv rv rows Fp)
    (hvs : W.ownsRow B 22 1 rv vs.length vs) (hlen : vs.length = rows.length) (h0 : vs[0]? = some sv) (hrows : ∀ (i : Nat) (v : Value) (l : List Int), vs[i + 1]? = some v → rows[i + 1]? = some l → OwnInts W B v l ∧ ∀ g, v.ownBlock = some g → ¬ Fp g)
    (hv : OwnInts W B v l) (hvF : ∀ g, v.ownBlock = some g → ¬ Fp g) (hFp : ∀ g, Fp g → g < W.heap.size) (hown : W2.ownsRow B 22 1 rv' (vs.length + 1) (vs ++ [v])) (hg : (W.alloc o).grownBy W2 rv.ownBlock) (hat : rv'.ownBlock = rv.ownBlock ∨ rv'.ownBlock = some (W.alloc o).heap.size) :
    RowsOf W2 B sv rv' (rows ++ [l]) Fp := by
  have hsame : ∀ g, g < W.heap.size → rv.ownBlock ≠ some g → W2.heap[g]? = W.heap[g]? := fun g hgl hne => (hg.block g (by simp; omega) (fun e => hne e.symm)).trans (alloc_old hgl)
  have hints : ∀ {u : Value} {xs : List Int}, OwnInts W B u xs → OwnInts W2 B u xs := fun hu => own_blk hu fun g hg => hsame g (own_lt hu hg).2 (own_apart hu hvs (by decide) g hg)
  have hpos : 0 < vs.length := (List.getElem?_eq_some_iff.1 h0).1
  refine ⟨⟨vs ++ [v], by rw [List.length_append]; exact hown, by simp [hlen], by rw [List.getElem?_append_left hpos]; exact h0, fun i u xs e1 e2 => ?_⟩, fun g hg' => ?_⟩
  · rcases append_get e1 with e1 | ⟨e0, rfl⟩
    · have hi := (List.getElem?_eq_some_iff.1 e1).1
      rw [List.getElem?_append_left (by omega)] at e2
      exact ⟨hints (hrows i u xs e1 e2).1, (hrows i u xs e1 e2).2⟩
    · rw [e0, hlen, List.getElem?_append_right (Nat.le_refl _), Nat.sub_self] at e2
      cases e2
      exact ⟨hints hv, hvF⟩
  · rcases hat with e | e
    · rw [e] at hg'; exact h.rv g hg'
    · rw [e] at hg'; cases hg'
      intro hf
      have := hFp _ hf
      simp at this
      omega
/-- what stands at the head of the outer loop; Wl: the memory when it began -/
structure RBase (Wl : World) (Bd g0 C : Nat) (sv : Value) (W : World) (rows next : List (List Int)) (fin : List Bool) (rv nv ev : Value) : Prop where
  turn : Turn (fun g => g = Bd ∨ g = g0) Wl W
  dbox : W.heap[Bd]? = some (.cells #[.slice (some ⟨C, 0, none⟩) 256 256, nv, ev] 30 (0, 0))
  rws : RowsOf W (Bd + 1) sv rv rows fun _ => False
  rvb : ∀ g, rv.ownBlock = some g → g = g0 ∨ Wl.heap.size ≤ g
  nxt : NextIn W Wl.heap.size nv next fun g => rv.ownBlock = some g
  fins : OwnBools W Wl.heap.size ev fin
theorem RBase.below {Wl W W' : World} {Bd g0 C : Nat} {sv rv nv ev : Value} {rows next : List (List Int)} {fin : List Bool} (h : RBase Wl Bd g0 C sv W rows next fin rv nv ev) (k : Below W.heap.size W W') : RBase Wl Bd g0 C sv W' rows next fin rv nv ev :=
  ⟨h.turn.trans (Turn.of_below k), (k.block _ (lt_of_heap h.dbox)).trans h.dbox, h.rws.below k, h.rvb, h.nxt.keep (fun g _ hg _ _ => k.block g hg) (fun _ _ h => h), own_later h.fins k⟩
theorem RBase.start {Wl : World} {Bd g0 C : Nat} {sv : Value} {l : List Int} (hd : Wl.heap[Bd]? = some (.cells #[.slice (some ⟨C, 0, none⟩) 256 256, .slice none 0 0, .slice none 0 0] 30 (0, 0))) (hg : Wl.heap[g0]? = some (.cells #[sv] 22 (0, 0))) (hlt : Bd < g0) :
    RBase Wl Bd g0 C sv Wl [l] [] [] (.slice (some ⟨g0, 0, none⟩) 1 1) (.slice none 0 0) (.slice none 0 0) := by
  refine ⟨Turn.refl _ _, hd, ⟨⟨[sv], ⟨rfl, .inr ⟨g0, 1, #[sv], rfl, hlt, hg, Nat.le_refl _, by unfold maxLen; omega, rfl, rfl⟩⟩, rfl, rfl, fun i v l e1 _ => ?_⟩, fun _ _ hf => hf⟩, fun g hg => ?_, ⟨⟨[], World.ownsRow_nil _ _ _ _, rfl, fun i v l e1 _ => ?_⟩, fun g hg => ?_⟩, World.ownsRow_nil _ _ _ _⟩
  · simp at e1
  · cases hg; exact .inl rfl
  · simp at e1
  · cases hg
theorem RBase.dbox2 {Wl W W2 : World} {Bd g0 C e k m : Nat} {sv rv nv ev u : Value} {xs : List Value} {rows next : List (List Int)} {fin : List Bool} {o : Obj} (h : RBase Wl Bd g0 C sv W rows next fin rv nv ev) (hbd : Bd < Wl.heap.size) (hu : W.ownsRow Wl.heap.size e k u m xs) (hg : (W.alloc o).grownBy W2 u.ownBlock) :
    W2.heap[Bd]? = some (.cells #[.slice (some ⟨C, 0, none⟩) 256 256, nv, ev] 30 (0, 0)) := by
  have hws := h.turn.size
  exact (hg.block _ (by simp; omega) (fun e => by have := (hu.lt _ e.symm).1; omega)).trans ((alloc_old (by omega)).trans h.dbox)
/-- the inner walk: rows have come, the numbers so far; Wo: the memory when it began -/
structure RMid (Wl Wo : World) (Bd g0 : Nat) (sv rv0 : Value) (W : World) (rows : List (List Int)) (acc : List Int) (rv nx : Value) : Prop where
  turn : Turn (fun g => rv0.ownBlock = some g) Wo W
  rws : RowsOf W (Bd + 1) sv rv rows fun g => nx.ownBlock = some g
  rvb : rv.ownBlock = rv0.ownBlock ∨ ∃ g, rv.ownBlock = some g ∧ Wo.heap.size ≤ g
  nx : OwnInts W Wo.heap.size nx acc
theorem RMid.start {Wl Wo : World} {Bd g0 C : Nat} {sv rv nv ev : Value} {rows next : List (List Int)} {fin : List Bool} (h : RBase Wl Bd g0 C sv Wo rows next fin rv nv ev) : RMid Wl Wo Bd g0 sv rv Wo rows [] rv (.slice none 0 0) :=
  ⟨Turn.refl _ _, h.rws.keep (fun _ _ _ _ _ => rfl) (fun _ _ hf => by cases hf), .inl rfl, World.ownsRow_nil _ _ _ _⟩
theorem RMid.below {Wl Wo W W' : World} {Bd g0 : Nat} {sv rv0 rv nx : Value} {rows : List (List Int)} {acc : List Int} (h : RMid Wl Wo Bd g0 sv rv0 W rows acc rv nx) (k : Below W.heap.size W W') : RMid Wl Wo Bd g0 sv rv0 W' rows acc rv nx :=
  ⟨h.turn.trans (Turn.of_below k), h.rws.below k, h.rvb, own_later h.nx k⟩
/-- a row is put behind the rows -/
theorem RMid.addRow {Wl Wo W W2 : World} {Bd g0 : Nat} {sv rv0 rv rv' nx v : Value} {rows : List (List Int)} {acc l : List Int} {vs : List Value} {o : Obj} (h : RMid Wl Wo Bd g0 sv rv0 W rows acc rv nx)
    (hvs : W.ownsRow (Bd + 1) 22 1 rv vs.length vs) (hlen : vs.length = rows.length) (h0 : vs[0]? = some sv) (hrows : ∀ (i : Nat) (v : Value) (l : List Int), vs[i + 1]? = some v → rows[i + 1]? = some l → OwnInts W (Bd + 1) v l ∧ ∀ g, v.ownBlock = some g → ¬ nx.ownBlock = some g)
    (hv : OwnInts W (Bd + 1) v l) (hvF : ∀ g, v.ownBlock = some g → ¬ nx.ownBlock = some g) (hown : W2.ownsRow (Bd + 1) 22 1 rv' (vs.length + 1) (vs ++ [v])) (hg : (W.alloc o).grownBy W2 rv.ownBlock) (hat : rv'.ownBlock = rv.ownBlock ∨ rv'.ownBlock = some (W.alloc o).heap.size) :
    RMid Wl Wo Bd g0 sv rv0 W2 (rows ++ [l]) acc rv' nx := by
  have hws := h.turn.size
  have hne : ∀ g, nx.ownBlock = some g → rv.ownBlock ≠ some g := own_apart h.nx hvs (by decide)
  have hsame : ∀ g, g < W.heap.size → rv.ownBlock ≠ some g → W2.heap[g]? = W.heap[g]? := fun g hgl hne => (hg.block g (by simp; omega) (fun e => hne e.symm)).trans (alloc_old hgl)
  refine ⟨(h.turn.alloc o).grown' hg fun g hg => ?_, h.rws.snoc hvs hlen h0 hrows hv hvF (fun g hg => (own_lt h.nx hg).2) hown hg hat, ?_, own_blk h.nx fun g hg => hsame g (own_lt h.nx hg).2 (hne g hg)⟩
  · rcases h.rvb with e | ⟨g', e, hl⟩
    · rw [e] at hg; exact .inl hg
    · rw [e] at hg; cases hg; exact .inr hl
  · rcases hat with e | e
    · rw [e]; exact h.rvb
    · exact .inr ⟨_, e, by simp; omega⟩
/-- a number is put behind the numbers -/
theorem RMid.push {Wl Wo W W2 : World} {Bd g0 : Nat} {sv rv0 rv nx nx' : Value} {rows : List (List Int)} {acc : List Int} {x : Int} {o : Obj} (h : RMid Wl Wo Bd g0 sv rv0 W rows acc rv nx)
    (hown : W2.ownsRow Wo.heap.size 3 1 nx' (acc.length + 1) (acc.map iV ++ [iV x])) (hg : (W.alloc o).grownBy W2 nx.ownBlock) (hat : nx'.ownBlock = nx.ownBlock ∨ nx'.ownBlock = some (W.alloc o).heap.size) :
    RMid Wl Wo Bd g0 sv rv0 W2 rows (acc ++ [x]) rv nx' := by
  have hsame : ∀ g, g < W.heap.size → nx.ownBlock ≠ some g → W2.heap[g]? = W.heap[g]? := fun g hgl hne => (hg.block g (by simp; omega) (fun e => hne e.symm)).trans (alloc_old hgl)
  refine ⟨(h.turn.alloc o).grown' hg fun g hg => .inr (own_lt h.nx hg).1, h.rws.keep (fun g _ hgl hf _ => hsame g hgl hf) fun g hgl hf => ?_, h.rvb, ?_⟩
  · rcases hat with e | e
    · rw [← e]; exact hf
    · rw [e] at hf; cases hf
      simp at hgl
      omega
  · unfold OwnInts
    rw [List.length_append, List.map_append]
    exact hown
/-- all classes have come -/
theorem RBase.mid {Wl Wo W : World} {Bd g0 C : Nat} {sv rv0 rv nv ev nx : Value} {rows0 rows next : List (List Int)} {fin : List Bool} {acc : List Int} (h : RBase Wl Bd g0 C sv Wo rows0 next fin rv0 nv ev) (hm : RMid Wl Wo Bd g0 sv rv0 W rows acc rv nx) :
    RBase Wl Bd g0 C sv W rows next fin rv nv ev := by
  have hws := h.turn.size
  obtain ⟨vs0, hv0, _⟩ := h.rws.ex
  have hnbd : ¬ rv0.ownBlock = some Bd := fun e => by
    have := (own_lt hv0 e).1
    omega
  have hnf : ∀ g, ev.ownBlock = some g → rv0.ownBlock ≠ some g := own_apart h.fins hv0 (by decide)
  refine ⟨h.turn.then hm.turn fun g hg => ?_, (hm.turn.block _ (lt_of_heap h.dbox) hnbd).trans h.dbox, hm.rws.keep (fun _ _ _ _ _ => rfl) (fun _ _ hf => hf.elim), ?_, h.nxt.keep (fun g _ hg hf _ => hm.turn.block g hg hf) fun g hg hf => ?_, own_blk h.fins fun g hg => hm.turn.block g (own_lt h.fins hg).2 (hnf g hg)⟩
  · rcases h.rvb g hg with e | e
    · exact .inl (.inr e)
    · exact .inr e
  · intro g hg
    rcases hm.rvb with e | ⟨g', e, hl⟩
    · rw [e] at hg; exact h.rvb g hg
    · rw [e] at hg; cases hg; exact .inr (by omega)
  · rcases hm.rvb with e | ⟨g', e, hl⟩
    · rw [e] at hf; exact hf
    · rw [e] at hf; cases hf; omega
theorem RBase.addNext {Wl W W2 : World} {Bd g0 C : Nat} {sv rv nv ev nv' v : Value} {rows next : List (List Int)} {fin : List Bool} {vs : List Value} {o : Obj} {l : List Int} (h : RBase Wl Bd g0 C sv W rows next fin rv nv ev) (hbd : Bd < Wl.heap.size)
    (hvs : W.ownsRow Wl.heap.size 22 1 nv vs.length vs) (hlen : vs.length = next.length) (hrows : ∀ (i : Nat) (v : Value) (l : List Int), vs[i]? = some v → next[i]? = some l → OwnInts W Wl.heap.size v l ∧ ∀ g, v.ownBlock = some g → ¬ rv.ownBlock = some g)
    (hv : OwnInts W Wl.heap.size v l) (hown : W2.ownsRow Wl.heap.size 22 1 nv' (vs.length + 1) (vs ++ [v])) (hg : (W.alloc o).grownBy W2 nv.ownBlock) (hat : nv'.ownBlock = nv.ownBlock ∨ nv'.ownBlock = some (W.alloc o).heap.size) :
    RBase Wl Bd g0 C sv (W2.setCell ⟨Bd, 1, none⟩ nv') rows (next ++ [l]) fin rv nv' ev := by
  have hws := h.turn.size
  have hnb : nv.ownBlock ≠ some Bd := fun e => by have := (own_lt hvs e).1; omega
  have hd2 : W2.heap[Bd]? = some (.cells #[.slice (some ⟨C, 0, none⟩) 256 256, nv, ev] 30 (0, 0)) := (hg.block _ (by simp; omega) (fun e => hnb e.symm)).trans ((alloc_old (by omega)).trans h.dbox)
  have htu : Turn (fun g => g = Bd ∨ nv.ownBlock = some g) W (W2.setCell ⟨Bd, 1, none⟩ nv') := (((Turn.refl _ W).alloc o).grown hg (fun g e => .inr e)).setCell (.inl rfl) _
  have hsame : ∀ g, g < W.heap.size → g ≠ Bd → nv.ownBlock ≠ some g → (W2.setCell ⟨Bd, 1, none⟩ nv').heap[g]? = W.heap[g]? := fun g hg h3 h4 => htu.block g hg fun h5 => h5.elim h3 h4
  have hints : ∀ {u : Value} {xs : List Int}, OwnInts W Wl.heap.size u xs → OwnInts (W2.setCell ⟨Bd, 1, none⟩ nv') Wl.heap.size u xs := fun hu => own_blk hu fun g hg => hsame g (own_lt hu hg).2 (by have := (own_lt hu hg).1; omega) (own_apart hu hvs (by decide) g hg)
  obtain ⟨vr, hvr, h6, h7, h8⟩ := h.rws.ex
  refine ⟨h.turn.then htu fun g hg => ?_, three_set1 _ hd2, ⟨⟨vr, own_blk hvr fun g hg => hsame g (own_lt hvr hg).2 (by have := (own_lt hvr hg).1; omega) (fun e => h.nxt.nv g e hg), h6, h7, fun i u xs e1 e2 => ⟨own_blk (h8 i u xs e1 e2).1 fun g hg => hsame g (own_lt (h8 i u xs e1 e2).1 hg).2 (by have := (own_lt (h8 i u xs e1 e2).1 hg).1; omega) (own_apart (h8 i u xs e1 e2).1 hvs (by decide) g hg), fun _ _ hf => hf⟩⟩, fun _ _ hf => hf⟩, h.rvb, ⟨⟨vs ++ [v], ?_, by simp [hlen], fun i u xs e1 e2 => ?_⟩, fun g hg hf => ?_⟩, own_blk h.fins (fun g hg => hsame g (own_lt h.fins hg).2 (by have := (own_lt h.fins hg).1; omega) (own_apart h.fins hvs (by decide) g hg))⟩
  · rcases hg with rfl | hg
    · exact .inl (.inl rfl)
    · exact .inr (own_lt hvs hg).1
  · have := own_set (i := 1) (u := nv') hown hd2 (by decide)
    rw [List.length_append]
    exact this
  · rcases append_get e1 with e1 | ⟨rfl, rfl⟩
    · have hi := (List.getElem?_eq_some_iff.1 e1).1
      rw [List.getElem?_append_left (by omega)] at e2
      exact ⟨hints (hrows i u xs e1 e2).1, (hrows i u xs e1 e2).2⟩
    · rw [hlen, List.getElem?_append_right (Nat.le_refl _), Nat.sub_self] at e2
      cases e2
      exact ⟨hints hv, fun g hg => own_apart hv hvr (by decide) g hg⟩
  · rcases hat with e | e
    · rw [e] at hg; exact h.nxt.nv g hg hf
    · rw [e] at hg; cases hg
      have := (own_lt hvr hf).2
      simp at this
      omega
theorem RBase.addFin {Wl W W2 : World} {Bd g0 C : Nat} {sv rv nv ev ev' : Value} {rows next : List (List Int)} {fin : List Bool} {o : Obj} {x : Bool} (h : RBase Wl Bd g0 C sv W rows next fin rv nv ev) (hbd : Bd < Wl.heap.size)
    (hown : W2.ownsRow Wl.heap.size 4 1 ev' (fin.length + 1) (fin.map Value.bool ++ [.bool x])) (hg : (W.alloc o).grownBy W2 ev.ownBlock) :
    RBase Wl Bd g0 C sv (W2.setCell ⟨Bd, 2, none⟩ ev') rows next (fin ++ [x]) rv nv ev' := by
  have hws := h.turn.size
  have hvs := h.fins
  have hnb : ev.ownBlock ≠ some Bd := fun e => by have := (own_lt hvs e).1; omega
  have hd2 : W2.heap[Bd]? = some (.cells #[.slice (some ⟨C, 0, none⟩) 256 256, nv, ev] 30 (0, 0)) := (hg.block _ (by simp; omega) (fun e => hnb e.symm)).trans ((alloc_old (by omega)).trans h.dbox)
  have htu : Turn (fun g => g = Bd ∨ ev.ownBlock = some g) W (W2.setCell ⟨Bd, 2, none⟩ ev') := (((Turn.refl _ W).alloc o).grown hg (fun g e => .inr e)).setCell (.inl rfl) _
  have hkeep : ∀ g, (Bd + 1 ≤ g ∨ Wl.heap.size ≤ g) → g < W.heap.size → (∀ cs t fr, W.heap[g]? = some (.cells cs t fr) → t = 3 ∨ t = 22) → (W2.setCell ⟨Bd, 2, none⟩ ev').heap[g]? = W.heap[g]? := fun g hl hg ht => htu.block g hg fun hs => by
    rcases hs with rfl | hs
    · omega
    · obtain ⟨cur, hc⟩ := own_tag hvs hs
      have := ht _ _ _ hc
      revert this; decide
  refine ⟨h.turn.then htu fun g hg => ?_, three_set2 _ hd2, h.rws.keep (fun g hl hg _ ht => hkeep g (.inl hl) hg ht) (fun _ _ h => h), h.rvb, h.nxt.keep (fun g hl hg _ ht => hkeep g (.inr hl) hg ht) (fun _ _ h => h), ?_⟩
  · rcases hg with rfl | hg
    · exact .inl (.inl rfl)
    · exact .inr (own_lt hvs hg).1
  · have := own_set (i := 2) (u := ev') hown hd2 (by decide)
    unfold OwnBools
    rw [List.length_append, List.map_append]
    exact this
/-! the plain law -/
/-- the search for a row, from behind: its least place so far -/
def atR (rows : List (List Int)) (t : List Int) (m : Nat) : Nat := m + (rows.drop m).idxOf t
theorem atR_end (rows : List (List Int)) (t : List Int) : atR rows t rows.length = rows.length := by unfold atR; rw [List.drop_length]; rfl
theorem atR_step {rows : List (List Int)} {t : List Int} {m : Nat} (h : m < rows.length) : atR rows t m = if rows[m] = t then m else atR rows t (m + 1) := by
  unfold atR
  rw [List.drop_eq_getElem_cons h, List.idxOf_cons]
  by_cases e : rows[m] = t
  · rw [if_pos e, e, beq_self_eq_true]; rfl
  · rw [if_neg e, beq_eq_false_iff_ne.2 e]
    dsimp only [cond]
    omega
theorem atR_zero (rows : List (List Int)) (t : List Int) : atR rows t 0 = rows.idxOf t := by unfold atR; rw [List.drop_zero, Nat.zero_add]
theorem nextR_cons {es : List Edge} {row : List Int} {rows : List (List Int)} {acc : List Int} {fs : List Nat} {k : Nat} (h : k < fs.length) :
    nextR es row rows acc (fs.drop k) = if sortU (stepM es row fs[k]) ∈ rows then nextR es row rows (acc ++ [(rows.idxOf (sortU (stepM es row fs[k])) : Int)]) (fs.drop (k + 1))
      else if 1024 ≤ rows.length then .error 2 else nextR es row (rows ++ [sortU (stepM es row fs[k])]) (acc ++ [(rows.length : Int)]) (fs.drop (k + 1)) := by
  rw [List.drop_eq_getElem_cons h]; rfl
/-- where the outer walk stands -/
structure RNum (n : Nfa) (p : List Se) (fs : List Nat) (s : Nat) (rows next : List (List Int)) (fin : List Bool) : Prop where
  most : rows.length ≤ 1024
  len : next.length = s
  flen : fin.length = s
  le : s ≤ rows.length
  short : ∀ l ∈ next, l.length = p.length
  hist : ofFrom n p (1026 - s) s rows next fin = ofFrom n p 1026 0 [sortU n.starts] [] []
theorem RNum.next {n : Nfa} {p : List Se} {fs : List Nat} {s : Nat} {rows next : List (List Int)} {fin : List Bool} (h : RNum n p fs s rows next fin) (hl : fs.length = p.length) (hf : ∀ i (h : i < p.length), firstS p[i] = fs[i]?) {row : List Int} : nextR n.edges row rows [] (fs.drop 0) = nextM n.edges row rows p := by
  rw [List.drop_zero, nextR_eq p fs rows [] hl hf h.most]
  cases nextM n.edges row rows p with
  | error e => rfl
  | ok y => obtain ⟨l, r⟩ := y; simp [addAcc]
theorem RNum.last {n : Nfa} {p : List Se} {fs : List Nat} {s : Nat} {rows next : List (List Int)} {fin : List Bool} (h : RNum n p fs s rows next fin) (hs : ¬ s < rows.length) : ofFrom n p 1026 0 [sortU n.starts] [] [] = .ok (next, fin) := by
  have h1 := h.hist
  have h2 := h.most
  have h3 := h.le
  rw [show 1026 - s = (1025 - s) + 1 by omega, ofFrom, if_neg hs] at h1
  exact h1.symm
theorem RNum.bad {n : Nfa} {p : List Se} {fs : List Nat} {s : Nat} {rows next : List (List Int)} {fin : List Bool} (h : RNum n p fs s rows next fin) (hs : s < rows.length) {e : Int} (he : nextM n.edges rows[s] rows p = .error e) : ofFrom n p 1026 0 [sortU n.starts] [] [] = .error e := by
  have h1 := h.hist
  have h2 := h.most
  rw [show 1026 - s = (1025 - s) + 1 by omega, ofFrom, if_pos hs, List.getD_eq_getElem?_getD, List.getElem?_eq_getElem hs] at h1
  simp only [Option.getD_some, he] at h1
  exact h1.symm
theorem RNum.good {n : Nfa} {p : List Se} {fs : List Nat} {s : Nat} {rows next : List (List Int)} {fin : List Bool} (h : RNum n p fs s rows next fin) (hs : s < rows.length) {l : List Int} {rows' : List (List Int)} (he : nextM n.edges rows[s] rows p = .ok (l, rows')) : RNum n p fs (s + 1) rows' (next ++ [l]) (fin ++ [rows[s].any fun x => decide (x ∈ n.ends)]) := by
  have h1 := h.hist
  have h2 := h.most
  obtain ⟨⟨t, ht⟩, h3, h4, _⟩ := nextM_law _ _ _ _ _ _ he h2
  rw [show 1026 - s = (1025 - s) + 1 by omega, ofFrom, if_pos hs, List.getD_eq_getElem?_getD, List.getElem?_eq_getElem hs] at h1
  simp only [Option.getD_some, he] at h1
  exact ⟨h3, by rw [List.length_append, h.len]; rfl, by rw [List.length_append, h.flen]; rfl, by rw [ht, List.length_append]; omega, fun r hr => (List.mem_append.1 hr).elim (h.short r) (fun hr => by rw [List.mem_singleton.1 hr]; exact h4), by rw [← h1, show 1026 - (s + 1) = 1025 - s by omega]⟩
end Go.Proofs.YtfjomnhdmkbkiaaDoor.Im

namespace Go.Proofs.YtfjomnhdmkbkiaaDoor.Im
open Go.RowKit Go.Lib

theorem unlike_from : ∀ (es : List Edge) (acc : List Se) (s : Se), s ∈ unlikeM acc es → s ∈ acc ∨ ∃ e ∈ es, e.st = s
  | [], acc, s, h => .inl h
  | e :: es, acc, s, h => by
    unfold unlikeM at h
    rcases unlike_from es _ s h with h | ⟨x, hx, rfl⟩
    · split at h
      · exact .inl h
      · rcases List.mem_append.1 h with h | h
        · exact .inl h
        · rw [List.mem_singleton] at h
          exact .inr ⟨e, List.mem_cons_self, h.symm⟩
    · exact .inr ⟨x, List.mem_cons_of_mem _ hx, rfl⟩
theorem any_take_step {p : Int → Bool} {l : List Int} {j : Nat} (h : j < l.length) : (l.take (j + 1)).any p = ((l.take j).any p || p l[j]) := by
  rw [take_succ' _ _ h, List.any_append]; simp
theorem get_of {α : Type} {l : List α} {i : Nat} {x : α} (h : l[i]? = some x) : ∃ hi : i < l.length, l[i] = x := List.getElem?_eq_some_iff.1 h
theorem turn_cell {S : Nat → Prop} {W W' : World} (h : Turn S W W') {g o : Nat} (hg : g < W.heap.size) (hn : ¬ S g) : W'.cell? ⟨g, o, none⟩ = W.cell? ⟨g, o, none⟩ := cell_heap (h.block g hg hn)
theorem RBase.dfa {Wl W W' : World} {Bd g0 C R B : Nat} {sv rv nv ev : Value} {rows next : List (List Int)} {fin : List Bool} {cl : List Int} (h : RBase Wl Bd g0 C sv W rows next fin rv nv ev) (hcl : ClsIn W C cl) (hl : cl.length = 256) (hB : B ≤ R) (hC : R < C) (hW : R < Wl.heap.size) (ht : Turn (fun g => g = R) W W') :
    DfaIn (fun g => B ≤ g ∧ g < W'.heap.size) W' (.slice (some ⟨C, 0, none⟩) 256 256) nv ev ⟨cl, next, fin⟩ := by
  have kk : ∀ {base e n : Nat} {u : Value} {xs : List Value}, R < base → W.ownsRow base e 1 u n xs → W'.ownsRow base e 1 u n xs := fun hb hu => own_blk hu fun g hg => ht.block g (own_lt hu hg).2 (by have := (own_lt hu hg).1; omega)
  obtain ⟨vs, n1, n2, n3⟩ := h.nxt.ex
  refine ⟨?_, ?_, ?_⟩
  · have h1 := kk hC hcl
    have e : OwnInts W' C (.slice (some ⟨C, 0, none⟩) 256 256) cl := by unfold OwnInts; rw [hl]; exact h1
    exact (ints_of_own e (own_max e)).frame (fun g hg => ⟨by have := hg.1; omega, hg.2⟩) (fun _ _ _ => rfl)
  · exact (rows_of_own (kk hW n1) n2 (fun i v l e1 e2 => kk hW (n3 i v l e1 e2).1) (n2 ▸ own_max n1) (fun l hl => by
      obtain ⟨i, hi, rfl⟩ := List.getElem_of_mem hl
      exact own_max (n3 i _ _ (List.getElem?_eq_getElem (by omega)) (List.getElem?_eq_getElem hi)).1)).frame (fun g hg => ⟨by have := hg.1; omega, hg.2⟩) (fun _ _ _ => rfl)
  · exact (bools_of_own (kk hW h.fins) (own_max h.fins)).frame (fun g hg => ⟨by have := hg.1; omega, hg.2⟩) (fun _ _ _ => rfl)
set_option maxRecDepth 100000 in
set_option maxHeartbeats 16000000 in
theorem ofR_main {F : Nat → Prop} {w : World} {s a b c : Value} {n : Nfa} {ks : List (List B)} {p : List Se} {fs : List Nat} (hn : NfaIn F w s a b c n) (hF : ∀ g, F g → g < w.heap.size) (hok : nfaOk n = true) (hst : ∀ e ∈ n.edges, e.st.ok) (hfew : (unlikeM [] n.edges).length ≤ 1024) (hp : PartAt (unlikeM [] n.edges) 256 ks p fs) :
    Calls Tryd.prog 14 #[.agg #[s, a, b, c]] w (OfPost w (match ofFrom n p 1026 0 [sortU n.starts] [] [] with | .error e => .error e | .ok (next, fin) => .ok ⟨clsOf (unlikeM [] n.edges) ks, next, fin⟩)) := by
  have HN0 := hid hn
  have HF0 := hid hF
  have HOK := hid hok
  have HST := hid hst
  have HFEW := hid hfew
  have HP := hid hp
  have HSOK := hid (show ∀ s ∈ unlikeM [] n.edges, s.ok from fun s hs => by
    rcases unlike_from _ _ _ hs with h | ⟨e, he, rfl⟩
    · cases h
    · exact hst e he)
  have hsv := hn.states
  subst hsv
  obtain ⟨ada, cpa, rfl, hma, _⟩ := hn.starts
  obtain ⟨adb, cpb, rfl, hmb, _⟩ := hn.ends
  obtain ⟨adc, cpc, rfl, hmc, _⟩ := hn.edges
  unfold maxLen at hma hmb hmc
  obtain ⟨xr, hxr⟩ : ∃ xr : Except Int Dfa, xr = (match ofFrom n p 1026 0 [sortU n.starts] [] [] with | .error e => .error e | .ok (next, fin) => .ok ⟨clsOf (unlikeM [] n.edges) ks, next, fin⟩) := ⟨_, rfl⟩
  rw [← hxr]
  have HXR := hid hxr
  clear hn hF hok hst hfew hp hxr
  go_enter Tryd.func14, Tryd.ntmps14
  go_upto_region 1 with fail
  obtain ⟨W0, hW0⟩ : ∃ W0, W0 = (w.alloc (.cells #[.int .i64 n.states, .slice ada n.starts.length cpa, .slice adb n.ends.length cpb, .slice adc n.edges.length cpc] 25)).alloc (.cells #[.slice none 0 0, .slice none 0 0, .slice none 0 0] 30) := ⟨_, rfl⟩
  have HA0 := hid (show W0.heap[w.heap.size]? = some (.cells #[.int .i64 n.states, .slice ada n.starts.length cpa, .slice adb n.ends.length cpb, .slice adc n.edges.length cpc] 25 (0, 0)) by rw [hW0]; exact (alloc_old (by simp)).trans (heap_alloc_new _ _))
  have HR0 := hid (show W0.heap[w.heap.size + 1]? = some (.cells #[.slice none 0 0, .slice none 0 0, .slice none 0 0] 30 (0, 0)) by rw [hW0]; exact newB _ _ _)
  have HB0 := hid (show Below w.heap.size w W0 by rw [hW0]; exact ((Below.refl _ _).alloc (Nat.le_refl _) _).alloc (by simp) _)
  have HZ0 := hid (show W0.heap.size = w.heap.size + 2 by rw [hW0]; simp)
  rw [← hW0]
  clear hW0
  have HBW := hid (fun (W : World) (h : Below W0.heap.size W0 W) => HB0.out.trans (h.mono HB0.out.size))
  have HNW := hid (fun (W : World) (h : Below W0.heap.size W0 W) => (show NfaIn F W (.int .i64 n.states) (.slice ada n.starts.length cpa) (.slice adb n.ends.length cpb) (.slice adc n.edges.length cpc) n from HN0.out.frame (fun _ h => h) (fun g hg _ => (HBW.out W h).block g (HF0.out g hg))))
  have HFW := hid (fun (W : World) (h : Below W0.heap.size W0 W) (g : Nat) (hg : F g) => (show g < W.heap.size from Nat.lt_of_lt_of_le (HF0.out g hg) (HBW.out W h).size))
  have HAW := hid (fun (W : World) (h : Below W0.heap.size W0 W) => (h.block w.heap.size (lt_of_heap HA0.out)).trans HA0.out)
  have HRW := hid (fun (W : World) (h : Below W0.heap.size W0 W) => (h.block (w.heap.size + 1) (lt_of_heap HR0.out)).trans HR0.out)
  have HTH := hid (fun (W W' : World) (h : Below W0.heap.size W0 W) (h' : Below W.heap.size W W') => h.trans (h'.mono h.size))
  obtain ⟨q0, q1, q2, q3⟩ := ncells HA0.out
  have hch := right10_any (HNW.out W0 (Below.refl _ _)) (HFW.out W0 (Below.refl _ _))
  rw [HOK.out] at hch
  go_wp2_with fail
  refine hch.mono ?_
  clear hch q0 q1 q2 q3
  rintro e w1 ⟨rfl, hb1⟩
  have H1 := hid hb1
  obtain ⟨q0, q1, q2, q3⟩ := ncells (HAW.out w1 H1.out)
  have hul := unlikeR_any (HNW.out w1 H1.out).edges (HFW.out w1 H1.out) (nfaOk_len HOK.out).2.2.1
  clear hb1
  go_wp2_with fail
  refine hul.mono ?_
  clear hul q0 q1 q2 q3
  rintro e w2 ⟨hb2, adu, cpu, rfl, hou⟩
  have H2 := hid (HTH.out _ _ H1.out hb2)
  have hpm := partsR_any (sets_of_own hou rfl (own_max hou)) (fun g hg => hg.2) HFEW.out HSOK.out HP.out
  clear hou hb2
  go_wp2_with fail
  refine hpm.mono ?_
  rintro e w3 ⟨hb3, adp, cpp, rfl, hop⟩
  have H3 := hid (HTH.out _ _ H2.out hb3)
  have hcl := class2_any (sets_of_own hop rfl (own_max hop)) (fun g hg => hg.2) HP.out
  clear hpm hop hb3
  go_wp2_with fail
  refine hcl.mono ?_
  clear hcl
  rintro e w4 ⟨C, hC, rfl, hcls, hb4⟩
  have H4 := hid (HTH.out _ _ H3.out hb4)
  have HC4 := hid hcls
  have hC4 := (own_lt hcls rfl).2
  have hC0 : w.heap.size + 2 ≤ C := by have := H3.out.size; have := HZ0.out; omega
  clear hcls hb4 hC
  go_upto_region 8 with fail
  obtain ⟨W5, hW5⟩ : ∃ W5, W5 = w4.alloc (.cells #[.slice (some ⟨C, 0, none⟩) 256 256, .slice none 0 0, .slice none 0 0] 30) := ⟨_, rfl⟩
  have HD5 := hid (show W5.heap[w4.heap.size]? = some (.cells #[.slice (some ⟨C, 0, none⟩) 256 256, .slice none 0 0, .slice none 0 0] 30 (0, 0)) by rw [hW5]; exact heap_alloc_new _ _)
  have HB5 := hid (show Below w4.heap.size w4 W5 by rw [hW5]; exact (Below.refl _ _).alloc (Nat.le_refl _) _)
  have H5 := hid (HTH.out _ _ H4.out HB5.out)
  have HZ5 := hid (show W5.heap.size = w4.heap.size + 1 by rw [hW5]; simp)
  have HC5 := hid (own_later HC4.out HB5.out)
  rw [← hW5]
  clear hW5 HB5 HC4
  generalize w4.heap.size = Bd at *
  have hin := ints_cls HC5.out (clsOf_len _ _)
  rw [clsOf_len] at hin
  have hfi := firstsR_any (c := fun b => ks.idxOf (keyM (unlikeM [] n.edges) b)) hin (fun g hg => by rw [hg]; have := HZ5.out; omega) HP.out.law (fun m h => h.last HP.out)
  clear hin
  go_wp2_with fail
  refine hfi.mono ?_
  clear hfi
  rintro e w6 ⟨hb6, adf, cpf, rfl, hof⟩
  have H6 := hid (HTH.out _ _ H5.out hb6)
  have HB6 := hid hb6
  have HO6 := hid hof
  obtain ⟨q0, q1, q2, q3⟩ := ncells (HAW.out w6 H6.out)
  clear hb6 hof
  go_upto_region 10 with fail
  obtain ⟨Wl, hWl⟩ : ∃ Wl, Wl = w6.alloc (.cells #[.slice ada n.starts.length cpa] 22) := ⟨_, rfl⟩
  have HBl := hid (show Below w6.heap.size w6 Wl by rw [hWl]; exact (Below.refl _ _).alloc (Nat.le_refl _) _)
  have HGl := hid (show Wl.heap[w6.heap.size]? = some (.cells #[.slice ada n.starts.length cpa] 22 (0, 0)) by rw [hWl]; exact heap_alloc_new _ _)
  have HZl := hid (show Wl.heap.size = w6.heap.size + 1 by rw [hWl]; simp)
  have Hl := hid (HTH.out _ _ H6.out HBl.out)
  have HDl := hid ((HBl.out.block _ (lt_of_heap ((HB6.out.block _ (lt_of_heap HD5.out)).trans HD5.out))).trans ((HB6.out.block _ (lt_of_heap HD5.out)).trans HD5.out))
  have HCl := hid (own_later (own_later HC5.out HB6.out) HBl.out)
  have HOl := hid (own_later HO6.out HBl.out)
  have hg0 : Bd < w6.heap.size := by have := HB6.out.size; have := HZ5.out; omega
  have HFl := hid (fun (g : Nat) (hg : (Value.slice adf fs.length cpf).ownBlock = some g) => (show Bd < g ∧ g < w6.heap.size by have := own_lt HO6.out hg; have := HZ5.out; omega))
  rw [← hWl]
  clear hWl q0 q1 q2 q3 HBl HO6 HC5 HD5 HB6 H6 H5 H4 H3 H2 H1
  generalize w6.heap.size = g0 at *
  have hbd : Bd < Wl.heap.size := by have := HZl.out; omega
  have hgl : g0 < Wl.heap.size := by have := HZl.out; omega
  have HBL := hid (RBase.start (l := sortU n.starts) HDl.out HGl.out hg0)
  have HSO := hid (show sortU n.starts = n.starts from sort_rise (nfaOk_len HOK.out).2.2.2.1)
  have HEL := hid (nfaOk_len HOK.out).2.2.1
  -- what stays, whatever the loops turn
  have hN0 : w.heap.size < Bd := by omega
  have HAT := hid (fun (W : World) (h : Turn (fun g => g = Bd ∨ g = g0) Wl W) => (show W.heap[w.heap.size]? = some (.cells #[.int .i64 n.states, .slice ada n.starts.length cpa, .slice adb n.ends.length cpb, .slice adc n.edges.length cpc] 25 (0, 0)) from (h.block _ (by omega) (fun e => by omega)).trans (HAW.out Wl Hl.out)))
  have HRT := hid (fun (W : World) (h : Turn (fun g => g = Bd ∨ g = g0) Wl W) => (show W.heap[w.heap.size + 1]? = some (.cells #[.slice none 0 0, .slice none 0 0, .slice none 0 0] 30 (0, 0)) from (h.block _ (by omega) (fun e => by omega)).trans (HRW.out Wl Hl.out)))
  have HNT := hid (fun (W : World) (h : Turn (fun g => g = Bd ∨ g = g0) Wl W) => (show NfaIn F W (.int .i64 n.states) (.slice ada n.starts.length cpa) (.slice adb n.ends.length cpb) (.slice adc n.edges.length cpc) n from (HNW.out Wl Hl.out).frame (fun _ h => h) (fun g hg hgl => h.block g hgl (fun e => by have := HF0.out g hg; omega))))
  have HFT := hid (fun (W : World) (h : Turn (fun g => g = Bd ∨ g = g0) Wl W) (g : Nat) (hg : F g) => (show g < W.heap.size by have := HF0.out g hg; have := h.size; omega))
  have HCT := hid (fun (W : World) (h : Turn (fun g => g = Bd ∨ g = g0) Wl W) => (show ClsIn W C (clsOf (unlikeM [] n.edges) ks) from own_blk HCl.out (fun g hg => by cases hg; exact h.block C (by omega) (fun e => by omega))))
  have HOT := hid (fun (W : World) (h : Turn (fun g => g = Bd ∨ g = g0) Wl W) => own_blk HOl.out (fun g hg => h.block _ (by have := HFl.out g hg; omega) (fun e => by have := HFl.out g hg; omega)))
  have HBT := hid (fun (W : World) (h : Turn (fun g => g = Bd ∨ g = g0) Wl W) => (show Below w.heap.size w W from (HBW.out Wl Hl.out).trans (h.below (by omega) (fun g hg => by omega))))
  have HSTART := hid (show RNum n p fs 0 [sortU n.starts] [] [] from ⟨by simp, rfl, rfl, Nat.zero_le _, by simp, rfl⟩)
  have hz02 : w.heap.size + 2 ≤ Wl.heap.size := by omega
  have hfl : fs.length ≤ 256 := HP.out.most
  have HPL := hid HP.out.len
  have HPF := hid (show ∀ i (h : i < p.length), firstS p[i] = fs[i]? from fun i h => by
    have hi : i < fs.length := by rw [← HP.out.len]; exact h
    rw [HP.out.first hi h, List.getElem?_eq_getElem hi])
  have HPX := hid HP.out.lt
  clear HAW HRW HNW HFW HBW HTH HA0 HR0 HB0 HZ0 HZ5 HZl HDl HGl HCl HOl HP Hl HFEW HSOK HN0 HF0
  obtain ⟨i0, hi, hz0, hz1, hz2⟩ := info_parts infoI
  have HII := hid hi
  have HZI := hid (And.intro hz0 (And.intro hz1 hz2))
  clear hi hz0 hz1 hz2
  obtain ⟨iR, hi, hz0, hz1, hz2⟩ := info_parts infoR
  have HIR := hid hi
  have HZR := hid (And.intro hz0 (And.intro hz1 hz2))
  clear hi hz0 hz1 hz2
  obtain ⟨iB, hi, hz0, hz1, hz2⟩ := info_parts infoL
  have HIB := hid hi
  have HZB := hid (And.intro hz0 (And.intro hz1 hz2))
  clear hi hz0 hz1 hz2
  go_wp2_with fail
  go_loopw [10, 11] (fun rv i wr => ∃ (s : Nat) (rows next : List (List Int)) (fin : List Bool) (nv ev : Value), i = .int .i64 s ∧ RBase Wl Bd g0 C (.slice ada n.starts.length cpa) wr rows next fin rv nv ev ∧ Hid (RNum n p fs s rows next fin) ∧ Hid (rows[0]? = some n.starts)) (fun _ i _ => 1025 - (intOf i).toNat)
  case atStart => exact ⟨0, [sortU n.starts], [], [], .slice none 0 0, .slice none 0 0, rfl, HBL.out, HSTART, hid (by rw [HSO.out]; rfl)⟩
  case round =>
    obtain ⟨s, rows, next, fin, nv, ev, rfl, hbase, hnum, hrow0⟩ := hrel
    obtain ⟨hrm, adr0, cpr0, rfl⟩ := hbase.rws.shape
    unfold maxLen at hrm
    have HB := hid hbase
    have hmost := hnum.out.most
    clear hbase hrm
    by_cases hs : s < rows.length
    · obtain ⟨row, hrow⟩ : ∃ row, row = rows[s] := ⟨_, rfl⟩
      have HROW := hid hrow
      obtain ⟨Wo, rfl⟩ : ∃ Wo : World, Wo = wr := ⟨_, rfl⟩
      clear hrow
      go_wp2_with fail
      go_loopw [10, 12, 13] (fun rv nx kv wr => ∃ (k : Nat) (rows' : List (List Int)) (acc : List Int), k ≤ fs.length ∧ kv = .int .i64 k ∧ RMid Wl Wo Bd g0 (.slice ada n.starts.length cpa) (.slice adr0 rows.length cpr0) wr rows' acc rv nx ∧ Hid (acc.length = k) ∧ rows.length ≤ rows'.length ∧ rows'.length ≤ 1024 ∧ Hid (rows'[s]? = some row ∧ rows'[0]? = some n.starts ∧ nextR n.edges row rows' acc (fs.drop k) = nextM n.edges row rows p)) (fun _ _ kv _ => fs.length - (intOf kv).toNat)
      case atStart => exact ⟨0, rows, [], Nat.zero_le _, rfl, RMid.start HB.out, hid rfl, Nat.le_refl _, hmost, hid ⟨by rw [List.getElem?_eq_getElem hs, HROW.out], hrow0.out, hnum.out.next HPL.out.symm HPF.out⟩⟩
      case round =>
        obtain ⟨k, rows', acc, hk, rfl, hmid, hacc, hrl, hrm, hnx⟩ := hrel
        have hal : acc.length ≤ 256 := by have := hacc.out; omega
        obtain ⟨_, adr, cpr, rfl⟩ := hmid.rws.shape
        obtain ⟨adx, cpx, rfl⟩ := own_shape hmid.nx
        have HM := hid hmid
        have HT := hid (HB.out.mid hmid).turn
        have HRWS := hid (HB.out.mid hmid).rws
        have HSZ := hid (show Wl.heap.size ≤ wr.heap.size from HT.out.size)
        clear hmid
        by_cases hlt : k < fs.length
        -- <cut
        · have hs1 : s < rows'.length := by omega
          obtain ⟨_, hrs⟩ := get_of hnx.out.1
          have HR0' := hid (fun (l : List Int) (h : rows'[0]? = some l) => (show IntsIn F wr (.slice ada n.starts.length cpa) l by rw [hnx.out.2.1] at h; cases h; exact (HNT.out wr HT.out).starts))
          obtain ⟨g1, v1, hadr, hc1, hi1⟩ := HRWS.out.at' HR0'.out (HFT.out wr HT.out) hs1
          subst hadr
          rw [hrs] at hi1
          have HI1 := hid hi1
          have hof := HOT.out wr HT.out
          obtain ⟨gf, cf, he⟩ := own_form hof (by omega)
          cases he
          have hcf := hof.cellAt k (by simpa using hlt)
          rw [List.getElem?_map, List.getElem?_eq_getElem hlt] at hcf
          have hxlt := HPX.out _ (List.getElem_mem hlt)
          have hnxc := hnx.out.2.2
          rw [nextR_cons hlt] at hnxc
          have hcf : wr.cell? ⟨gf, k, none⟩ = some (.int .i64 ((fs[k] : Nat) : Int)) := hcf
          have hfb := HFl.out gf rfl
          generalize fs[k] = x at *
          obtain ⟨q0, q1, q2, q3⟩ := ncells (HAT.out wr HT.out)
          have hzN : w.heap.size < wr.heap.size := by have := HSZ.out; omega
          have hzg1 : g1 < wr.heap.size := by
            obtain ⟨vs, hvs, _⟩ := HRWS.out.ex
            exact (own_lt hvs rfl).2
          have hzgf : gf < wr.heap.size := by have := HSZ.out; omega
          have HSTEP := hid (fun (W : World) (h : Below wr.heap.size wr W) => stepR_any (F := fun g => g < W.heap.size) ((HNT.out wr HT.out).frame (F' := fun g => g < W.heap.size) (fun g hg => by have := HFT.out wr HT.out g hg; have := h.size; omega) (fun g hg hl => h.block g hl)) (HI1.out.frame (F' := fun g => g < W.heap.size) (fun g (hg : g < wr.heap.size) => Nat.lt_of_lt_of_le hg h.size) (fun g hg hl => h.block g hl)) (fun g hg => hg) HST.out HEL.out ((x : Nat) : Int) x rfl hxlt)
          have HNXC := hid hnxc
          clear hnxc hof hi1 hrs hxlt hfb
          go_upto_region 17 with fail
          have HSS := hid (fun (W : World) (h : Below wr.heap.size wr W) => (show (fun W : World => W.cell? ⟨w.heap.size, 0, none⟩ = some (.int .i64 n.states) ∧ W.cell? ⟨w.heap.size, 1, none⟩ = some (.slice ada n.starts.length cpa) ∧ W.cell? ⟨w.heap.size, 2, none⟩ = some (.slice adb n.ends.length cpb) ∧ W.cell? ⟨w.heap.size, 3, none⟩ = some (.slice adc n.edges.length cpc) ∧ W.cell? ⟨g1, s, none⟩ = some v1 ∧ W.cell? ⟨gf, k, none⟩ = some (.int .i64 ((x : Nat) : Int))) W from ⟨(h.cell hzN).trans q0, (h.cell hzN).trans q1, (h.cell hzN).trans q2, (h.cell hzN).trans q3, (h.cell hzg1).trans hc1, (h.cell hzgf).trans hcf⟩))
          have HTH2 := hid (fun (W W' : World) (h : Below wr.heap.size wr W) (h' : Below W.heap.size W W') => h.trans (h'.mono h.size))
          have HCUR := hid (Below.refl wr.heap.size wr).drew
          have HS := hid (HSS.out _ HCUR.out)
          clear q0 q1 q2 q3 hc1 hcf hzN hzg1 hzgf
          refine wp_region_held_drew (S := (fun W : World => W.cell? ⟨w.heap.size, 0, none⟩ = some (.int .i64 n.states) ∧ W.cell? ⟨w.heap.size, 1, none⟩ = some (.slice ada n.starts.length cpa) ∧ W.cell? ⟨w.heap.size, 2, none⟩ = some (.slice adb n.ends.length cpb) ∧ W.cell? ⟨w.heap.size, 3, none⟩ = some (.slice adc n.edges.length cpc) ∧ W.cell? ⟨g1, s, none⟩ = some v1 ∧ W.cell? ⟨gf, k, none⟩ = some (.int .i64 ((x : Nat) : Int)))) (by kernel_rfl) HS.out (fun _ => ?_)
          refine wpAnyH_take (i := 0) (v := .agg #[.int .i64 n.states, .slice ada n.starts.length cpa, .slice adb n.ends.length cpb, .slice adc n.edges.length cpc]) rfl (by kernel_rfl) (by kernel_rfl) (by kernel_rfl) (fun _ _ _ h => h) (Or.inl ⟨by rfl, fun w hS => by have k0 := hS.1; have k1 := hS.2.1; have k2 := hS.2.2.1; have k3 := hS.2.2.2.1; have k4 := hS.2.2.2.2.1; have k5 := hS.2.2.2.2.2; go_simp⟩) HS.out ?_
          simp only [Act.put, List.getElem_toArray, List.getElem_cons_zero, List.setIfInBounds_toArray, List.set_cons_zero, List.set_cons_succ]
          refine wpAnyH_take (i := 1) (v := .slice (some ⟨g1, 0, none⟩) rows'.length cpr) rfl (by kernel_rfl) (by kernel_rfl) (by kernel_rfl) (fun _ _ _ h => h) (Or.inl ⟨by rfl, fun w hS => by go_simp⟩) HS.out ?_
          simp only [Act.put, List.getElem_toArray, List.getElem_cons_zero, List.getElem_cons_succ, List.setIfInBounds_toArray, List.set_cons_zero, List.set_cons_succ]
          refine wpAnyH_take (i := 2) (v := .int .i64 s) rfl (by kernel_rfl) (by kernel_rfl) (by kernel_rfl) (fun _ _ _ h => h) (Or.inl ⟨by rfl, fun w hS => by go_simp⟩) HS.out ?_
          simp only [Act.put, List.getElem_toArray, List.getElem_cons_zero, List.getElem_cons_succ, List.setIfInBounds_toArray, List.set_cons_zero, List.set_cons_succ]
          refine wpAnyH_take (i := 3) (v := .pointer (some ⟨g1, s, none⟩)) rfl (by kernel_rfl) (by kernel_rfl) (by kernel_rfl) (fun _ _ _ h => h) (Or.inl ⟨by rfl, fun w hS => by go_simp⟩) HS.out ?_
          simp only [Act.put, List.getElem_toArray, List.getElem_cons_zero, List.getElem_cons_succ, List.setIfInBounds_toArray, List.set_cons_zero, List.set_cons_succ]
          refine wpAnyH_take (i := 4) (v := v1) rfl (by kernel_rfl) (by kernel_rfl) (by kernel_rfl) (fun _ _ _ h => h) (Or.inl ⟨by rfl, fun w hS => by have k0 := hS.1; have k1 := hS.2.1; have k2 := hS.2.2.1; have k3 := hS.2.2.2.1; have k4 := hS.2.2.2.2.1; have k5 := hS.2.2.2.2.2; go_simp⟩) HS.out ?_
          simp only [Act.put, List.getElem_toArray, List.getElem_cons_zero, List.getElem_cons_succ, List.setIfInBounds_toArray, List.set_cons_zero, List.set_cons_succ]
          refine wpAnyH_take (i := 5) (v := .slice (some ⟨gf, 0, none⟩) fs.length cpf) rfl (by kernel_rfl) (by kernel_rfl) (by kernel_rfl) (fun _ _ _ h => h) (Or.inl ⟨by rfl, fun w hS => by go_simp⟩) HS.out ?_
          simp only [Act.put, List.getElem_toArray, List.getElem_cons_zero, List.getElem_cons_succ, List.setIfInBounds_toArray, List.set_cons_zero, List.set_cons_succ]
          refine wpAnyH_take (i := 6) (v := .int .i64 k) rfl (by kernel_rfl) (by kernel_rfl) (by kernel_rfl) (fun _ _ _ h => h) (Or.inl ⟨by rfl, fun w hS => by go_simp⟩) HS.out ?_
          simp only [Act.put, List.getElem_toArray, List.getElem_cons_zero, List.getElem_cons_succ, List.setIfInBounds_toArray, List.set_cons_zero, List.set_cons_succ]
          refine wpAnyH_take (i := 7) (v := .pointer (some ⟨gf, k, none⟩)) rfl (by kernel_rfl) (by kernel_rfl) (by kernel_rfl) (fun _ _ _ h => h) (Or.inl ⟨by rfl, fun w hS => by go_simp⟩) HS.out ?_
          simp only [Act.put, List.getElem_toArray, List.getElem_cons_zero, List.getElem_cons_succ, List.setIfInBounds_toArray, List.set_cons_zero, List.set_cons_succ]
          refine wpAnyH_take (i := 8) (v := .int .i64 ((x : Nat) : Int)) rfl (by kernel_rfl) (by kernel_rfl) (by kernel_rfl) (fun _ _ _ h => h) (Or.inl ⟨by rfl, fun w hS => by have k0 := hS.1; have k1 := hS.2.1; have k2 := hS.2.2.1; have k3 := hS.2.2.2.1; have k4 := hS.2.2.2.2.1; have k5 := hS.2.2.2.2.2; go_simp⟩) HS.out ?_
          simp only [Act.put, List.getElem_toArray, List.getElem_cons_zero, List.getElem_cons_succ, List.setIfInBounds_toArray, List.set_cons_zero, List.set_cons_succ]
          refine wpAnyH_ready (rs := [9]) (by kernel_rfl) (by simp) (AllReadyH.cons rfl (fun K hK => ?_) AllReadyH.nil)
          go_simp
          refine (HSTEP.out _ HCUR.out).mono ?_
          rintro e' w2 ⟨tv, rfl, hot, hb'⟩
          obtain ⟨adt, cpt, rfl⟩ := own_shape hot
          have HOT2 := hid (own_mono hot HCUR.out.size)
          have HCUR := hid (HTH2.out _ _ HCUR.out hb')
          have HS := hid (HSS.out _ HCUR.out)
          refine hK.out _ _ HS.out (fun _ => ?_)
          clear hK K hb' hot
          refine wpAnyH_take (i := 10) (v := .slice adt (sortU (stepM n.edges row x)).length cpt) rfl (by kernel_rfl) (by kernel_rfl) (by kernel_rfl) (fun _ _ _ h => h) (Or.inl ⟨by rfl, fun w hS => by go_simp⟩) HS.out ?_
          simp only [Act.put, List.getElem_toArray, List.getElem_cons_zero, List.getElem_cons_succ, List.setIfInBounds_toArray, List.set_cons_zero, List.set_cons_succ]
          refine wpAnyH_done (by kernel_rfl) ?_ _
          have HM2 := hid (HM.out.below HCUR.out)
          have HRWS2 := hid (HRWS.out.below HCUR.out)
          have HT2 := hid (HT.out.trans (Turn.of_below HCUR.out))
          generalize ht : sortU (stepM n.edges row x) = t at *
          clear HS HSS HTH2 HSTEP HI1
          have htm : t.length ≤ maxLen := own_max HOT2.out
          unfold maxLen at htm
          go_wp2_with fail
          go_loopw [15, 16] (fun va vj wr => ∃ j : Nat, j ≤ rows'.length ∧ vj = .int .i64 ((j : Int) - 1) ∧ va = .int .i64 (atR rows' t j) ∧ Below w2.heap.size w2 wr) (fun _ vj _ => (intOf vj + 1).toNat)
          case atStart => exact ⟨rows'.length, Nat.le_refl _, by go_num, by rw [atR_end], Below.refl _ _⟩
          case round =>
            obtain ⟨j, hj, rfl, rfl, hbj⟩ := hrel
            have HBJ := hid hbj
            clear hbj
            by_cases hj0 : 0 < j
            -- (inner
            · obtain ⟨i, rfl⟩ : ∃ i, j = i + 1 := ⟨j - 1, by omega⟩
              have ei : ((i + 1 : Nat) : Int) - 1 = (i : Int) := by omega
              rw [ei]
              have hin : i < rows'.length := by omega
              obtain ⟨gq, vi, hgq, hci, hii⟩ := (HRWS2.out.below HBJ.out).at' (fun l h => by
                rw [hnx.out.2.1] at h; cases h
                exact (HNT.out wr (HT2.out.trans (Turn.of_below HBJ.out))).starts) (HFT.out wr (HT2.out.trans (Turn.of_below HBJ.out))) hin
              cases hgq
              have hat := atR_step (t := t) hin
              have hcall := intsR_any hii (ints_of_own (own_later HOT2.out HBJ.out) (own_max HOT2.out)) (fun g hg => hg) (fun g hg => hg.2)
              by_cases hic : rows'[i] = t
              · rw [if_pos hic] at hat
                rw [decide_eq_true hic] at hcall
                have HATR := hid hat
                have HCALL := hid hcall
                clear hat hcall hic ei hii
                go_wp2_with (go_at_call 53; refine HCALL.out.mono ?_; rintro e w4 ⟨rfl, hb4⟩; have HB4 := hid hb4; clear hb4)
                go_roundw
                case rel => exact ⟨i, by omega, by go_num, by rw [HATR.out], HBJ.out.trans (HB4.out.mono HBJ.out.size)⟩
                case measure => simp [intOf]
              · rw [if_neg hic] at hat
                rw [decide_eq_false hic] at hcall
                have HATR := hid hat
                have HCALL := hid hcall
                clear hat hcall hic ei hii
                go_wp2_with (go_at_call 53; refine HCALL.out.mono ?_; rintro e w4 ⟨rfl, hb4⟩; have HB4 := hid hb4; clear hb4)
                go_roundw
                case rel => exact ⟨i, by omega, by go_num, by rw [HATR.out], HBJ.out.trans (HB4.out.mono HBJ.out.size)⟩
                case measure => simp [intOf]
            -- inner)
            · obtain rfl : j = 0 := by omega
              rw [atR_zero, show ((0 : Nat) : Int) - 1 = -1 from rfl]
              have HM3 := hid (HM2.out.below HBJ.out)
              have HOTJ := hid (own_later HOT2.out HBJ.out)
              have HT3 := hid (HT2.out.trans (Turn.of_below HBJ.out))
              have hsz3 : Wl.heap.size ≤ wr.heap.size := HT3.out.size
              have hszo : Wo.heap.size ≤ wr.heap.size := HM3.out.turn.size
              clear HM2 HRWS2 HT2 HBJ
              by_cases hmem : t ∈ rows'
              · have hidx := List.idxOf_lt_length_of_mem hmem
                have hne : (((rows'.idxOf t : Nat) : Int) == (rows'.length : Int)) = false := by simp; omega
                have hnx2 := HNXC.out
                rw [if_pos hmem] at hnx2
                have HNX2 := hid hnx2
                generalize rows'.idxOf t = ix at *
                clear hmem hnx2
                go_upto_region 28 with fail
                go_wp2_with (at_builtin; refine wpList_append_own_at _ rfl _ _ 22 rfl Wo.heap.size 3 i0 (.int .i64 0) 1 8 Tryd.underlying22 HII.out HZI.out.1 HZI.out.2.1 HZI.out.2.2 rfl (by decide) (.slice adx acc.length cpx) acc.length (acc.map iV) (by rfl) (HM3.out.nx.alloc _) ⟨wr.heap.size, 0, none⟩ 1 1 [iV (ix : Int)] (by rfl) rfl (one_at (heap_alloc_new _ _)) (one_cell_one rfl) (by unfold maxLen; omega) (by omega) (by simp; omega) ?_; intro nx' w5 ho5 hg5 _ hat5; have HO5 := hid ho5; have HG5 := hid hg5; have HAT5 := hid hat5; clear ho5 hg5 hat5)
                refine And.intro ?_ ?_
                · exact ⟨k + 1, rows', acc ++ [(ix : Int)], by omega, by go_num, HM3.out.push HO5.out HG5.out HAT5.out, hid (by rw [List.length_append, hacc.out]; rfl), hrl, hrm, hid ⟨hnx.out.1, hnx.out.2.1, HNX2.out⟩⟩
                · simp [intOf]; omega
              · have hidx : rows'.idxOf t = rows'.length := List.idxOf_eq_length hmem
                rw [hidx]
                have hnx2 := HNXC.out
                rw [if_neg hmem] at hnx2
                clear hmem hidx
                by_cases hbig : 1024 ≤ rows'.length
                · rw [if_pos hbig] at hnx2
                  have HXE := hid (show xr = .error 2 by
                    have h1 := hnum.out.bad hs (e := 2) (by rw [← HROW.out]; exact hnx2.symm)
                    rw [HXR.out, h1])
                  have hbig' : (1024 : Int) ≤ (rows'.length : Int) := by omega
                  have hres := HRT.out wr HT3.out
                  have HRES := hid hres
                  have HBW := hid (HBT.out wr HT3.out)
                  clear hnx2 hbig hres
                  go_wp2_with (refine wpList_store_same rfl 30 (.tmp 2) (.tmp 90) rfl 3 infoDfa (w.heap.size + 1) 30 _ HRES.out rfl (by rfl) (by rfl) rfl ?_)
                  refine bodyPost_ret (results_cell_one (ty := 30) rfl _ _ (w.heap.size + 1) 30 _ (0, 0) _ rfl HRES.out Tryd.underlying30 rfl (by kernel_rfl)) rfl ?_
                  rw [HXE.out]
                  exact ⟨rfl, HBW.out⟩
                · rw [if_neg hbig] at hnx2
                  have HNX2 := hid hnx2
                  have hbig' : ¬ (1024 : Int) ≤ (rows'.length : Int) := by omega
                  obtain ⟨vs, hvs, hvl, hv0, hvr⟩ := HM3.out.rws.ex
                  have HVS := hid hvs
                  have HVL := hid hvl
                  have HV0 := hid hv0
                  have HVR := hid hvr
                  have HVS2 := hid (show wr.ownsRow (Bd + 1) 22 1 (.slice (some ⟨g1, 0, none⟩) rows'.length cpr) rows'.length vs by rw [← hvl]; rw [← hvl] at hvs; exact hvs)
                  clear hnx2 hvs hvl hv0 hvr
                  go_upto_region 28 with (at_builtin; refine wpList_append_own_at _ rfl _ _ 27 rfl (Bd + 1) 22 iR (.slice none 0 0) 1 24 Tryd.underlying27 HIR.out HZR.out.1 HZR.out.2.1 HZR.out.2.2 rfl (by decide) (.slice (some ⟨g1, 0, none⟩) rows'.length cpr) rows'.length vs (by rfl) (HVS2.out.alloc _) ⟨wr.heap.size, 0, none⟩ 1 1 [.slice adt t.length cpt] (by rfl) rfl (cell_one_new _ _ _) (one_cell_one rfl) (by unfold maxLen; omega) (by omega) (by simp; omega) ?_; intro rv' w5 ho5 hg5 _ hat5; have HO5 := hid ho5; have HG5 := hid hg5; have HAT5 := hid hat5; clear ho5 hg5 hat5)
                  have HOTB := hid (show OwnInts wr (Bd + 1) (.slice adt t.length cpt) t from own_mono HOTJ.out (by have := HSZ.out; omega))
                  have HAP := hid (fun (g : Nat) (hg : (Value.slice adt t.length cpt).ownBlock = some g) => (show ¬ (Value.slice adx acc.length cpx).ownBlock = some g from fun h => by
                    have h1 := (own_lt HOTJ.out hg).1
                    have h2 := (own_lt HM.out.nx h).2
                    omega))
                  have HM5 := hid (HM3.out.addRow (o := .cells #[.slice adt t.length cpt] 22) HVS.out HVL.out HV0.out HVR.out HOTB.out HAP.out (by rw [HVL.out]; exact HO5.out) HG5.out HAT5.out)
                  have hsz5 : wr.heap.size ≤ w5.heap.size := by
                    have h1 := HG5.out.size
                    rw [World.size_alloc] at h1
                    omega
                  clear HO5 HG5 HAT5 HVS HVL HV0 HVR HVS2
                  obtain ⟨hq5, adq, cpq, hrv⟩ := HM5.out.rws.shape
                  rw [List.length_append, show [t].length = 1 from rfl] at hrv
                  subst hrv
                  go_wp2_with (at_builtin; refine wpList_append_own_at _ rfl _ _ 22 rfl Wo.heap.size 3 i0 (.int .i64 0) 1 8 Tryd.underlying22 HII.out HZI.out.1 HZI.out.2.1 HZI.out.2.2 rfl (by decide) (.slice adx acc.length cpx) acc.length (acc.map iV) (by rfl) (HM5.out.nx.alloc _) ⟨w5.heap.size, 0, none⟩ 1 1 [iV (rows'.length : Int)] (by rfl) rfl (one_at (heap_alloc_new _ _)) (one_cell_one rfl) (by unfold maxLen; omega) (by omega) (by simp; omega) ?_; intro nx' w6 ho6 hg6 _ hat6; have HO6 := hid ho6; have HG6 := hid hg6; have HAT6 := hid hat6; clear ho6 hg6 hat6)
                  refine And.intro ?_ ?_
                  · exact ⟨k + 1, rows' ++ [t], acc ++ [(rows'.length : Int)], by omega, by go_num, HM5.out.push HO6.out HG6.out HAT6.out, hid (by rw [List.length_append, hacc.out]; rfl), by simp; omega, by simp; omega, hid ⟨by rw [List.getElem?_append_left hs1]; exact hnx.out.1, by rw [List.getElem?_append_left (by omega)]; exact hnx.out.2.1, HNX2.out⟩⟩
                  · simp [intOf]; omega
        -- cut>
        · obtain rfl : k = fs.length := by omega
          have hnx3 := hnx.out.2.2
          rw [List.drop_length] at hnx3
          have HGOOD := hid (hnum.out.good hs (by rw [← HROW.out]; exact hnx3.symm))
          have HB3 := hid (HB.out.mid HM.out)
          have hs1 : s < rows'.length := by omega
          obtain ⟨_, hrs⟩ := get_of hnx.out.1
          obtain ⟨Wm, rfl⟩ : ∃ Wm : World, Wm = wr := ⟨_, rfl⟩
          clear hnx3
          have HT3 := hid HB3.out.turn
          obtain ⟨g1, v1, hadr, hc1, hi1⟩ := HB3.out.rws.at' (fun l h => by
            rw [hnx.out.2.1] at h; cases h
            exact (HNT.out Wm HT3.out).starts) (HFT.out Wm HT3.out) hs1
          subst hadr
          rw [hrs] at hi1
          have HI1 := hid hi1
          have hzg1 : g1 < Wm.heap.size := by
            obtain ⟨vs, hvs, _⟩ := HB3.out.rws.ex
            exact (own_lt hvs rfl).2
          obtain ⟨adv, cpv, rfl, hmv, _⟩ := hi1
          unfold maxLen at hmv
          clear hrs
          go_upto_region 31 with fail
          go_loopw [17, 18] (fun ve vj wr => ∃ j : Nat, j ≤ row.length ∧ vj = .int .i64 j ∧ ve = .bool ((row.take j).any fun x => decide (x ∈ n.ends)) ∧ Below Wm.heap.size Wm wr) (fun _ vj _ => row.length - (intOf vj).toNat)
          case atStart => exact ⟨0, Nat.zero_le _, rfl, by simp, Below.refl _ _⟩
          case round =>
            obtain ⟨j, hj, rfl, rfl, hbj⟩ := hrel
            have HBJ := hid hbj
            have hc := (hbj.cell hzg1).trans hc1
            clear hbj
            by_cases hjl : j < row.length
            -- (inner
            · have hstep : ((row.take (j + 1)).any fun x => decide (x ∈ n.ends)) = (((row.take j).any fun x => decide (x ∈ n.ends)) || decide (row[j] ∈ n.ends)) := any_take_step hjl
              have hti := HT3.out.trans (Turn.of_below HBJ.out)
              obtain ⟨g2, o2, hadv, _, hx⟩ := ints_at (HI1.out.frame (F' := fun g => g < wr.heap.size) (fun g (hg : g < Wm.heap.size) => Nat.lt_of_lt_of_le hg HBJ.out.size) (fun g hg hl => HBJ.out.block g hl)) hjl
              subst hadv
              have q2 := (ncells (HAT.out wr hti)).2.2.1
              have HEN := hid (HNT.out wr hti).ends
              have HIN := hid (fun (m : Nat) => Calls.quiet_of_same (inR_any (HEN.out.frame (F' := F) (w' := wr.drewN m) (fun _ h => h) (fun _ _ _ => rfl)) row[j]))
              clear hti
              cases hfb : ((row.take j).any fun x => decide (x ∈ n.ends)) with
              | true =>
                rw [hfb, Bool.true_or] at hstep
                have HSTEP := hid hstep
                clear hstep hfb
                go_wp2_with fail
                go_quiet (fail)
                go_wp2_with fail
                go_roundw
                case rel => exact ⟨j + 1, by omega, by go_num, by rw [HSTEP.out], below_drewN HBJ.out _⟩
                case measure => simp [intOf]; omega
              | false =>
                rw [hfb, Bool.false_or] at hstep
                generalize row[j] = z at *
                generalize decide (z ∈ n.ends) = zb at *
                have HSTEP := hid hstep
                clear hstep hfb
                go_wp2_with fail
                go_quiet ((go_at_call 54; exact HIN.out _))
                go_wp2_with fail
                go_roundw
                case rel => exact ⟨j + 1, by omega, by go_num, by rw [HSTEP.out], below_drewN HBJ.out _⟩
                case measure => simp [intOf]; omega
            -- inner)
            · obtain rfl : j = row.length := by omega
              rw [List.take_length]
              have HFB := hid (show ((rows[s].any fun x => decide (x ∈ n.ends)) : Bool) = (row.any fun x => decide (x ∈ n.ends)) by rw [HROW.out])
              generalize (row.any fun x => decide (x ∈ n.ends)) = fb at *
              have hgd := HGOOD.out
              rw [HFB.out] at hgd
              have HGD := hid hgd
              have HB4 := hid (HB3.out.below HBJ.out)
              have HNXO := hid (own_mono (own_later HM.out.nx HBJ.out) HB.out.turn.size)
              obtain ⟨vs, hvs, hvl, hvr⟩ := HB4.out.nxt.ex
              obtain ⟨adn, cpn, rfl⟩ := own_shape hvs
              obtain ⟨ade, cpe, rfl⟩ := own_shape HB4.out.fins
              have HVS := hid hvs
              have HVL := hid hvl
              have HVR := hid hvr
              have hvm : vs.length ≤ 1024 := by have h1 := hnum.out.len; omega
              have hfm : fin.length ≤ 1024 := by have h1 := hnum.out.flen; omega
              have hzb := HB4.out.turn.size
              have c1 := cell_blk (i := 1) HB4.out.dbox rfl
              clear hgd hvs hvl hvr hc1
              go_upto_region 35 with (at_builtin; refine wpList_append_own_at _ rfl _ _ 27 rfl Wl.heap.size 22 iR (.slice none 0 0) 1 24 Tryd.underlying27 HIR.out HZR.out.1 HZR.out.2.1 HZR.out.2.2 rfl (by decide) (.slice adn vs.length cpn) vs.length vs (by rfl) (HVS.out.alloc _) ⟨wr.heap.size, 0, none⟩ 1 1 [.slice adx acc.length cpx] (by rfl) rfl (cell_one_new _ _ _) (one_cell_one rfl) (by unfold maxLen; omega) (by omega) (by simp; omega) ?_; intro nv' w5 ho5 hg5 _ hat5; obtain ⟨adn', cpn', rfl⟩ := own_shape ho5; have HO5 := hid ho5; have HG5 := hid hg5; have HAT5 := hid hat5; have hd5 := HB4.out.dbox2 hbd HVS.out hg5; have x1 := cell_blk (i := 1) hd5 rfl; have x2 := free_box (i := 1) hd5; clear ho5 hg5 hat5 hd5)
              have HB5 := hid (HB4.out.addNext hbd HVS.out HVL.out HVR.out (l := acc) HNXO.out HO5.out HG5.out HAT5.out)
              generalize w5.setCell ⟨Bd, 1, none⟩ (.slice adn' (vs.length + 1) cpn') = w6 at *
              have x3 := cell_blk (i := 2) HB5.out.dbox rfl
              have hz6 := HB5.out.turn.size
              clear x1 x2 c1
              go_wp2_with (at_builtin; refine wpList_append_own_at _ rfl _ _ 28 rfl Wl.heap.size 4 iB (.bool false) 1 1 Tryd.underlying28 HIB.out HZB.out.1 HZB.out.2.1 HZB.out.2.2 rfl (by decide) (.slice ade fin.length cpe) fin.length (fin.map Value.bool) (by rfl) (HB5.out.fins.alloc _) ⟨w6.heap.size, 0, none⟩ 1 1 [.bool fb] (by rfl) rfl (cell_one_new _ _ _) (one_cell_one rfl) (by unfold maxLen; omega) (by omega) (by simp; omega) ?_; intro ev' w7 ho7 hg7 _ hat7; obtain ⟨ade', cpe', rfl⟩ := own_shape ho7; have HO7 := hid ho7; have HG7 := hid hg7; have hd7 := HB5.out.dbox2 hbd HB5.out.fins hg7; have y1 := cell_blk (i := 2) hd7 rfl; have y2 := free_box (i := 2) hd7; clear ho7 hg7 hat7 hd7)
              have HB6 := hid (HB5.out.addFin hbd (x := fb) HO7.out HG7.out)
              have H0S := hid hnx.out.2.1
              refine And.intro ?_ ?_
              · exact ⟨s + 1, rows', next ++ [acc], fin ++ [fb], _, _, by go_num, HB6.out, HGD, H0S⟩
              · simp [intOf]; omega
    · have HLAST := hid (hnum.out.last hs)
      have hs' : ¬ ((s : Int) < (rows.length : Int)) := by omega
      obtain ⟨vs, hvs, hvl, _⟩ := HB.out.nxt.ex
      obtain ⟨adn, cpn, rfl⟩ := own_shape hvs
      obtain ⟨ade, cpe, rfl⟩ := own_shape HB.out.fins
      have HTB := hid HB.out.turn
      have hzt := HTB.out.size
      have HTU := hid (show Turn (fun g => g = w.heap.size + 1) wr (wr.setRow (w.heap.size + 1) #[.slice (some ⟨C, 0, none⟩) 256 256, .slice adn vs.length cpn, .slice ade fin.length cpe]) from turn_setRow (S := fun g => g = w.heap.size + 1) rfl _)
      have H1 := hid (setRow_heap (HRT.out wr HTB.out) #[.slice (some ⟨C, 0, none⟩) 256 256, .slice adn vs.length cpn, .slice ade fin.length cpe])
      have HDF := hid (HB.out.dfa (B := w.heap.size) (HCT.out wr HTB.out) (clsOf_len _ _) (Nat.le_succ _) (by omega) (by omega) HTU.out)
      have HBE := hid ((HBT.out wr HTB.out).trans (HTU.out.below (by omega) (fun g hg => by omega)))
      clear hvs hvl
      go_upto_region 36 with fail
      go_step
      refine wpList_load_blk rfl 30 (.tmp 8) rfl 3 infoDfa _ Tryd.underlying30 rfl Bd rfl 30 _ HB.out.dbox rfl ?_
      refine wpList_store_blk rfl 30 (.tmp 2) (.tmp 133) rfl 3 infoDfa (w.heap.size + 1) 30 _ (HRT.out wr HTB.out) rfl #[.slice (some ⟨C, 0, none⟩) 256 256, .slice adn vs.length cpn, .slice ade fin.length cpe] (by rfl) (by rfl) rfl rfl ?_
      generalize wr.setRow (w.heap.size + 1) #[.slice (some ⟨C, 0, none⟩) 256 256, .slice adn vs.length cpn, .slice ade fin.length cpe] = W5 at *
      go_wp2_with fail
      refine bodyPost_ret (results_cell_one (ty := 30) rfl _ _ (w.heap.size + 1) 30 _ (0, 0) _ rfl H1.out Tryd.underlying30 rfl (by kernel_rfl)) rfl ?_
      rw [HXR.out, HLAST.out]
      exact ⟨_, _, _, rfl, HDF.out, HBE.out⟩
end Go.Proofs.YtfjomnhdmkbkiaaDoor.Im

namespace Go.Proofs.YtfjomnhdmkbkiaaDoor.Im
open Go.RowKit Go.Lib

set_option maxRecDepth 100000 in
set_option maxHeartbeats 4000000 in
theorem ofR_bad {F : Nat → Prop} {w : World} {s a b c : Value} {n : Nfa} (hn : NfaIn F w s a b c n) (hF : ∀ g, F g → g < w.heap.size) (hbad : nfaOk n = false) :
    Calls Tryd.prog 14 #[.agg #[s, a, b, c]] w (OfPost w (.error 1)) := by
  have HN0 := hid hn
  have HF0 := hid hF
  have HBAD := hid hbad
  have hsv := hn.states
  subst hsv
  obtain ⟨ada, cpa, rfl, hma, _⟩ := hn.starts
  obtain ⟨adb, cpb, rfl, hmb, _⟩ := hn.ends
  obtain ⟨adc, cpc, rfl, hmc, _⟩ := hn.edges
  clear hn hF hbad
  go_enter Tryd.func14, Tryd.ntmps14
  go_upto_region 1 with fail
  obtain ⟨W0, hW0⟩ : ∃ W0, W0 = (w.alloc (.cells #[.int .i64 n.states, .slice ada n.starts.length cpa, .slice adb n.ends.length cpb, .slice adc n.edges.length cpc] 25)).alloc (.cells #[.slice none 0 0, .slice none 0 0, .slice none 0 0] 30) := ⟨_, rfl⟩
  have HA0 := hid (show W0.heap[w.heap.size]? = some (.cells #[.int .i64 n.states, .slice ada n.starts.length cpa, .slice adb n.ends.length cpb, .slice adc n.edges.length cpc] 25 (0, 0)) by rw [hW0]; exact (alloc_old (by simp)).trans (heap_alloc_new _ _))
  have HR0 := hid (show W0.heap[w.heap.size + 1]? = some (.cells #[.slice none 0 0, .slice none 0 0, .slice none 0 0] 30 (0, 0)) by rw [hW0]; exact newB _ _ _)
  have HB0 := hid (show Below w.heap.size w W0 by rw [hW0]; exact ((Below.refl _ _).alloc (Nat.le_refl _) _).alloc (by simp) _)
  rw [← hW0]
  clear hW0
  obtain ⟨q0, q1, q2, q3⟩ := ncells HA0.out
  have hch := right10_any (HN0.out.frame (F' := F) (w' := W0) (fun _ h => h) (fun g hg _ => HB0.out.block g (HF0.out g hg))) (fun g hg => Nat.lt_of_lt_of_le (HF0.out g hg) HB0.out.size)
  rw [HBAD.out] at hch
  go_wp2_with fail
  refine hch.mono ?_
  clear hch q0 q1 q2 q3
  rintro e w1 ⟨rfl, hb1⟩
  have HR1 := hid ((hb1.block _ (lt_of_heap HR0.out)).trans HR0.out)
  have HB1 := hid (HB0.out.trans (hb1.mono HB0.out.size))
  clear hb1
  go_wp2_with (refine wpList_store_same rfl 30 (.tmp 2) (.tmp 22) rfl 3 infoDfa (w.heap.size + 1) 30 _ HR1.out rfl (by rfl) (by rfl) rfl ?_)
  refine bodyPost_ret (results_cell_one (ty := 30) rfl _ _ (w.heap.size + 1) 30 _ (0, 0) _ rfl HR1.out Tryd.underlying30 rfl (by kernel_rfl)) rfl ?_
  exact ⟨rfl, HB1.out⟩
set_option maxRecDepth 100000 in
set_option maxHeartbeats 4000000 in
theorem ofR_many {F : Nat → Prop} {w : World} {s a b c : Value} {n : Nfa} (hn : NfaIn F w s a b c n) (hF : ∀ g, F g → g < w.heap.size) (hok : nfaOk n = true) (hmany : 1024 < (unlikeM [] n.edges).length) :
    Calls Tryd.prog 14 #[.agg #[s, a, b, c]] w (OfPost w (.error 2)) := by
  have HN0 := hid hn
  have HF0 := hid hF
  have HOK := hid hok
  have HM := hid hmany
  have hsv := hn.states
  subst hsv
  obtain ⟨ada, cpa, rfl, hma, _⟩ := hn.starts
  obtain ⟨adb, cpb, rfl, hmb, _⟩ := hn.ends
  obtain ⟨adc, cpc, rfl, hmc, _⟩ := hn.edges
  clear hn hF hok hmany
  go_enter Tryd.func14, Tryd.ntmps14
  go_upto_region 1 with fail
  obtain ⟨W0, hW0⟩ : ∃ W0, W0 = (w.alloc (.cells #[.int .i64 n.states, .slice ada n.starts.length cpa, .slice adb n.ends.length cpb, .slice adc n.edges.length cpc] 25)).alloc (.cells #[.slice none 0 0, .slice none 0 0, .slice none 0 0] 30) := ⟨_, rfl⟩
  have HA0 := hid (show W0.heap[w.heap.size]? = some (.cells #[.int .i64 n.states, .slice ada n.starts.length cpa, .slice adb n.ends.length cpb, .slice adc n.edges.length cpc] 25 (0, 0)) by rw [hW0]; exact (alloc_old (by simp)).trans (heap_alloc_new _ _))
  have HR0 := hid (show W0.heap[w.heap.size + 1]? = some (.cells #[.slice none 0 0, .slice none 0 0, .slice none 0 0] 30 (0, 0)) by rw [hW0]; exact newB _ _ _)
  have HB0 := hid (show Below w.heap.size w W0 by rw [hW0]; exact ((Below.refl _ _).alloc (Nat.le_refl _) _).alloc (by simp) _)
  rw [← hW0]
  clear hW0
  obtain ⟨q0, q1, q2, q3⟩ := ncells HA0.out
  have hch := right10_any (HN0.out.frame (F' := F) (w' := W0) (fun _ h => h) (fun g hg _ => HB0.out.block g (HF0.out g hg))) (fun g hg => Nat.lt_of_lt_of_le (HF0.out g hg) HB0.out.size)
  rw [HOK.out] at hch
  go_wp2_with fail
  refine hch.mono ?_
  clear hch q0 q1 q2 q3
  rintro e w1 ⟨rfl, hb1⟩
  have HA1 := hid ((hb1.block _ (lt_of_heap HA0.out)).trans HA0.out)
  have HR1 := hid ((hb1.block _ (lt_of_heap HR0.out)).trans HR0.out)
  have HB1 := hid (HB0.out.trans (hb1.mono HB0.out.size))
  obtain ⟨q0, q1, q2, q3⟩ := ncells HA1.out
  have hul := unlikeR_any (HN0.out.edges.frame (F' := F) (w' := w1) (fun _ h => h) (fun g hg _ => HB1.out.block g (HF0.out g hg))) (fun g hg => Nat.lt_of_lt_of_le (HF0.out g hg) HB1.out.size) (nfaOk_len HOK.out).2.2.1
  clear hb1
  go_wp2_with fail
  refine hul.mono ?_
  clear hul q0 q1 q2 q3
  rintro e w2 ⟨hb2, adu, cpu, rfl, hou⟩
  have HR2 := hid ((hb2.block _ (lt_of_heap HR1.out)).trans HR1.out)
  have HB2 := hid (HB1.out.trans (hb2.mono HB1.out.size))
  have hpm := partsR_many (sets_of_own hou rfl (own_max hou)) HM.out
  clear hou hb2
  go_wp2_with fail
  refine hpm.mono ?_
  clear hpm
  rintro e w3 ⟨rfl, rfl⟩
  go_wp2_with (refine wpList_store_same rfl 30 (.tmp 2) (.tmp 32) rfl 3 infoDfa (w.heap.size + 1) 30 _ HR2.out rfl (by rfl) (by rfl) rfl ?_)
  refine bodyPost_ret (results_cell_one (ty := 30) rfl _ _ (w.heap.size + 1) 30 _ (0, 0) _ rfl HR2.out Tryd.underlying30 rfl (by kernel_rfl)) rfl ?_
  exact ⟨rfl, HB2.out⟩
/-- the contract of the reference's Of -/
theorem ofR_any {F : Nat → Prop} {w : World} {s a b c : Value} {n : Nfa} (hn : NfaIn F w s a b c n) (hF : ∀ g, F g → g < w.heap.size) (hst : ∀ e ∈ n.edges, e.st.ok) :
    Calls Tryd.prog 14 #[.agg #[s, a, b, c]] w (OfPost w (ofM n)) := by
  by_cases hok : nfaOk n = true
  · by_cases hm : 1024 < (unlikeM [] n.edges).length
    · have e : ofM n = .error 2 := by unfold ofM; rw [if_pos hok]; unfold partsM; rw [if_pos hm]
      rw [e]
      exact ofR_many hn hF hok hm
    · obtain ⟨ks, p, fs, h1, h2, h3⟩ := parts_law (unlikeM [] n.edges) (by omega)
      have e : ofM n = (match ofFrom n p 1026 0 [sortU n.starts] [] [] with | .error e => .error e | .ok (next, fin) => .ok ⟨clsOf (unlikeM [] n.edges) ks, next, fin⟩) := by
        unfold ofM
        rw [if_pos hok, h1]
        dsimp only
        rw [h3]
        cases ofFrom n p 1026 0 [sortU n.starts] [] [] <;> rfl
      rw [e]
      exact ofR_main hn hF hok hst (by omega) h2
  · have hok' : nfaOk n = false := by simpa using hok
    have e : ofM n = .error 1 := by unfold ofM; rw [if_neg hok]
    rw [e]
    exact ofR_bad hn hF hok'
end Go.Proofs.YtfjomnhdmkbkiaaDoor.Im

namespace Go.Proofs.YtfjomnhdmkbkiaaDoor.Im
open Go.RowKit Go.Lib Go.Maps Go.Shelf

/-- what a call of Of hands back, the automaton and the error -/
def outX (x : Except Int Dfa) : Dfa × Int :=
  match x with
  | .error e => (Dfa.zero, e)
  | .ok d => (d, 0)
theorem of_out {w w' : World} {x : Except Int Dfa} {e : Ending} (h : OfPost w x e w') : ∃ a b c, e = .returned (.tuple #[.agg #[a, b, c], .int .i64 (outX x).2]) ∧ DfaIn (fun g => w.heap.size ≤ g ∧ g < w'.heap.size) w' a b c (outX x).1 ∧ Below w.heap.size w w' := by
  cases x with
  | error er =>
    obtain ⟨rfl, hb⟩ := h
    exact ⟨_, _, _, rfl, ⟨⟨none, 0, rfl, Nat.zero_le _, fun h => absurd rfl h⟩, ⟨none, 0, rfl, Nat.zero_le _, fun h => absurd rfl h⟩, ⟨none, 0, rfl, Nat.zero_le _, fun h => absurd rfl h⟩⟩, hb⟩
  | ok d =>
    obtain ⟨a, b, c, rfl, hd, hb⟩ := h
    exact ⟨a, b, c, rfl, hd, hb⟩
set_option maxRecDepth 100000 in
set_option maxHeartbeats 8000000 in
theorem makes_walk {F : Nat → Prop} {w : World} {s a b c : Value} {n : Nfa} (hn : NfaIn F w s a b c n) (hF : ∀ g, F g → g < w.heap.size) (hst : ∀ e ∈ n.edges, e.st.ok) (hT : Tab w) :
    Calls Tryd.prog 3 #[.agg #[s, a, b, c]] w (AwPost w) := by
  generalize hW0 : w.alloc (.cells #[s, a, b, c] 25) = W0
  have hDb : W0.heap[w.heap.size]? = some (.cells #[s, a, b, c] 25 (0, 0)) := by rw [← hW0]; exact heap_alloc_new _ _
  have hz0 : W0.heap.size = w.heap.size + 1 := by rw [← hW0]; simp
  have hB0 : Below w.heap.size w W0 := by rw [← hW0]; exact (Below.refl _ _).alloc (Nat.le_refl _) _
  have HB := hid (fun (W : World) (h : Below (w.heap.size + 1) W0 W) => hB0.trans (h.mono (by omega)))
  have HN := hid (fun (W : World) (h : Below (w.heap.size + 1) W0 W) => (show NfaIn F W s a b c n from hn.frame (fun _ h => h) (fun g hg _ => (HB.out W h).block g (hF g hg))))
  have HF := hid (fun (W : World) (h : Below (w.heap.size + 1) W0 W) (g : Nat) (hg : F g) => (show g < W.heap.size from Nat.lt_of_lt_of_le (hF g hg) (HB.out W h).size))
  have HBOX := hid (fun (W : World) (h : Below (w.heap.size + 1) W0 W) => ncells ((h.block w.heap.size (by omega)).trans hDb))
  have HT := hid (fun (W : World) (h : Below (w.heap.size + 1) W0 W) => (show Tab W from hT.below (HB.out W h)))
  have HST := hid hst
  have hsv := hn.states
  subst hsv
  obtain ⟨ada, cpa, rfl, hma, _⟩ := hn.starts
  obtain ⟨adb, cpb, rfl, hmb, _⟩ := hn.ends
  obtain ⟨adc, cpc, rfl, hmc, _⟩ := hn.edges
  unfold maxLen at hma hmb hmc
  have HW0 := hid hW0
  have HZ := hid hz0
  have HTH := hid (fun (W W' : World) (h : Below (w.heap.size + 1) W0 W) (h' : Below W.heap.size W W') => h.trans (h'.mono (by have := h.size; omega)))
  clear hn hF hT hDb hW0 hB0 hz0 hst
  obtain ⟨q0, q1, q2, q3⟩ := HBOX.out W0 (Below.refl _ _)
  go_enter Tryd.func3, Tryd.ntmps3
  go_wp2_with fail
  rw [HW0.out]
  refine (small_some (HN.out W0 (Below.refl _ _)) (HF.out W0 (Below.refl _ _))).mono ?_
  rintro e w1 ⟨⟨x, rfl⟩, hb1⟩
  have H1 := hid (HTH.out _ _ (Below.refl _ _) hb1)
  clear q0 q1 q2 q3 hb1
  cases x with
  | false =>
    go_wp2_with fail
    go_ret
    exact ⟨rfl, HB.out _ H1.out⟩
  | true =>
    obtain ⟨q0, q1, q2, q3⟩ := HBOX.out w1 H1.out
    have hof := of_any (HN.out w1 H1.out) (HF.out w1 H1.out) (HT.out w1 H1.out) HST.out
    go_wp2_with fail
    refine hof.mono ?_
    clear hof q0 q1 q2 q3
    rintro e w2 hp
    obtain ⟨d1, d2, d3, rfl, hd2, hb2⟩ := of_out hp
    have H2 := hid (HTH.out _ _ H1.out hb2)
    obtain ⟨ad1, cp1, rfl, hm1, _⟩ := hd2.cls
    obtain ⟨ad2, cp2, rfl, hm2, _⟩ := hd2.next
    obtain ⟨ad3, cp3, rfl, hm3, _⟩ := hd2.fin
    unfold maxLen at hm1 hm2 hm3
    have HD2 := hid hd2
    clear hb2 hd2 hp
    go_upto_region 4 with fail
    generalize hW3 : w2.alloc (.cells #[.slice ad1 (outX (ofM n)).1.cls.length cp1, .slice ad2 (outX (ofM n)).1.next.length cp2, .slice ad3 (outX (ofM n)).1.fin.length cp3] 30) = w3
    have HX3 := hid (show w3.heap[w2.heap.size]? = some (.cells #[.slice ad1 (outX (ofM n)).1.cls.length cp1, .slice ad2 (outX (ofM n)).1.next.length cp2, .slice ad3 (outX (ofM n)).1.fin.length cp3] 30 (0, 0)) by rw [← hW3]; exact heap_alloc_new _ _)
    have H3 := hid (show Below (w.heap.size + 1) W0 w3 by rw [← hW3]; exact H2.out.alloc (by have := H2.out.size; have := HZ.out; omega) _)
    have HZ3 := hid (show w3.heap.size = w2.heap.size + 1 by rw [← hW3, World.size_alloc])
    have HD3 := hid (fun (W : World) (h : Below w3.heap.size w3 W) => (show DfaIn (fun g => w1.heap.size ≤ g ∧ g < w2.heap.size) W (.slice ad1 (outX (ofM n)).1.cls.length cp1) (.slice ad2 (outX (ofM n)).1.next.length cp2) (.slice ad3 (outX (ofM n)).1.fin.length cp3) (outX (ofM n)).1 from HD2.out.frame (fun _ h => h) (fun g hg hl => (h.block g (by have := HZ3.out; omega)).trans (by rw [← hW3]; exact alloc_old hl))))
    have HX := hid (fun (W : World) (h : Below w3.heap.size w3 W) => dcells ((h.block w2.heap.size (by have := HZ3.out; omega)).trans HX3.out))
    clear hW3 HD2
    obtain ⟨q0, q1, q2, q3⟩ := HBOX.out w3 H3.out
    have hrf := ofR_any (HN.out w3 H3.out) (HF.out w3 H3.out) HST.out
    go_wp2_with fail
    refine hrf.mono ?_
    clear hrf q0 q1 q2 q3
    rintro e w4 hp
    obtain ⟨e1, e2, e3, rfl, hd4, hb4⟩ := of_out hp
    have HB4 := hid hb4
    have H4 := hid (HTH.out _ _ H3.out hb4)
    obtain ⟨ae1, ce1, rfl, hn1, _⟩ := hd4.cls
    obtain ⟨ae2, ce2, rfl, hn2, _⟩ := hd4.next
    obtain ⟨ae3, ce3, rfl, hn3, _⟩ := hd4.fin
    unfold maxLen at hn1 hn2 hn3
    have HD4 := hid hd4
    clear hb4 hd4 hp
    go_upto_region 5 with fail
    generalize hW5 : w4.alloc (.cells #[.slice ae1 (outX (ofM n)).1.cls.length ce1, .slice ae2 (outX (ofM n)).1.next.length ce2, .slice ae3 (outX (ofM n)).1.fin.length ce3] 30) = w5
    have HX5 := hid (show w5.heap[w4.heap.size]? = some (.cells #[.slice ae1 (outX (ofM n)).1.cls.length ce1, .slice ae2 (outX (ofM n)).1.next.length ce2, .slice ae3 (outX (ofM n)).1.fin.length ce3] 30 (0, 0)) by rw [← hW5]; exact heap_alloc_new _ _)
    have HB45 := hid (show Below w4.heap.size w4 w5 by rw [← hW5]; exact (Below.refl _ _).alloc (Nat.le_refl _) _)
    have HB35 := hid (HB4.out.trans (HB45.out.mono HB4.out.size))
    have H5 := hid (HTH.out _ _ H4.out HB45.out)
    have HZ5 := hid (show w5.heap.size = w4.heap.size + 1 by rw [← hW5, World.size_alloc])
    have HD5 := hid (fun (W : World) (h : Below w5.heap.size w5 W) => (show DfaIn (fun g => w3.heap.size ≤ g ∧ g < w4.heap.size) W (.slice ae1 (outX (ofM n)).1.cls.length ce1) (.slice ae2 (outX (ofM n)).1.next.length ce2) (.slice ae3 (outX (ofM n)).1.fin.length ce3) (outX (ofM n)).1 from HD4.out.frame (fun _ h => h) (fun g hg hl => (h.block g (by have := HZ5.out; omega)).trans (HB45.out.block g hl))))
    have HY := hid (fun (W : World) (h : Below w5.heap.size w5 W) => dcells ((h.block w4.heap.size (by have := HZ5.out; omega)).trans HX5.out))
    clear hW5 HD4
    have haw := awake_any w5 (HT.out w5 H5.out)
    go_wp2_with fail
    refine haw.mono ?_
    clear haw
    rintro e w6 ⟨rfl, hb6⟩
    have HB6 := hid hb6
    have HB36 := hid (HB35.out.trans (hb6.mono HB35.out.size))
    have H6 := hid (HTH.out _ _ H5.out hb6)
    clear hb6
    obtain ⟨q0, q1, q2⟩ := HX.out w6 HB36.out
    obtain ⟨r0, r1, r2⟩ := HY.out w6 HB6.out
    have hsm := dsame_yes (HD3.out w6 HB36.out) (HD5.out w6 HB6.out) (fun g hg => by have := HB36.out.size; have := HZ3.out; omega) (fun g hg => by have := HB6.out.size; have := HZ5.out; omega)
    go_wp2_with fail
    refine hsm.mono ?_
    clear hsm q0 q1 q2 r0 r1 r2
    rintro e w7 ⟨rfl, hb7⟩
    have H7 := hid (HTH.out _ _ H6.out hb7)
    clear hb7
    go_wp2_with fail
    go_ret
    exact ⟨rfl, HB.out _ H7.out⟩
end Go.Proofs.YtfjomnhdmkbkiaaDoor.Im
