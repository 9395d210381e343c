/-
  whittleref12.Join and Not: their contracts; the walk of BoolsJoin.
-/
import Derived.Test.YtfjomnhdmkbkiaaDoorDiQ
import Derived.Test.YtfjomnhdmkbkiaaDoorDhQ
namespace Go.Proofs.YtfjomnhdmkbkiaaDoor.Im
open Go.RowKit Go.Lib Go.Maps

/-- at the head of the outer loop; Wl: the memory when it began -/
structure JBase (Wl : World) (Bd g0 C : Nat) (W : World) (rows : List Pr) (next : List (List Int)) (fin : List Bool) (rv nv ev : Value) : Prop where
  turn : Turn (fun g => g = Bd ∨ g = g0) Wl W
  dbox : W.heap[Bd]? = some (.cells #[.slice (some ⟨C, 0, none⟩) 256 256, nv, ev] 30 (0, 0))
  rws : OwnPrs W g0 rv rows
  rvb : ∀ g, rv.ownBlock = some g → g = g0 ∨ Wl.heap.size ≤ g
  nxt : NextIn W Wl.heap.size nv next fun _ => False
  fins : OwnBools W Wl.heap.size ev fin
theorem JBase.start {Wl : World} {Bd g0 C : Nat} {r : Pr} (hd : Wl.heap[Bd]? = some (.cells #[.slice (some ⟨C, 0, none⟩) 256 256, .slice none 0 0, .slice none 0 0] 30 (0, 0))) (hg : Wl.heap[g0]? = some (.cells r.cs 97 (0, 0))) :
    JBase Wl Bd g0 C Wl [r] [] [] (.slice (some ⟨g0, 0, none⟩) 1 1) (.slice none 0 0) (.slice none 0 0) := by
  refine ⟨Turn.refl _ _, hd, ⟨rfl, .inr ⟨g0, 1, r.cs, rfl, Nat.le_refl _, hg, Nat.le_refl _, by unfold maxLen; omega, rfl, rfl⟩⟩, fun g hg => ?_, ⟨⟨[], World.ownsRow_nil _ _ _ _, rfl, fun i v l e1 _ => ?_⟩, fun g hg => ?_⟩, World.ownsRow_nil _ _ _ _⟩
  · cases hg; exact .inl rfl
  · simp at e1
  · cases hg
theorem JBase.below {Wl W W' : World} {Bd g0 C : Nat} {rows : List Pr} {next : List (List Int)} {fin : List Bool} {rv nv ev : Value} (h : JBase Wl Bd g0 C W rows next fin rv nv ev) (k : Below W.heap.size W W') : JBase Wl Bd g0 C W' rows next fin rv nv ev :=
  ⟨h.turn.trans (Turn.of_below k), (k.block _ (lt_of_heap h.dbox)).trans h.dbox, own_later h.rws k, h.rvb, h.nxt.keep (fun g _ hg _ _ => k.block g hg) (fun _ _ h => h), own_later h.fins k⟩
theorem JBase.dbox2 {Wl W W2 : World} {Bd g0 C e k m : Nat} {rows : List Pr} {next : List (List Int)} {fin : List Bool} {rv nv ev u : Value} {xs : List Value} {o : Obj} (h : JBase Wl Bd g0 C W rows next fin rv nv ev) (hbd : Bd < Wl.heap.size) (hu : W.ownsRow Wl.heap.size e k u m xs) (hg : (W.alloc o).grownBy W2 u.ownBlock) :
    W2.heap[Bd]? = some (.cells #[.slice (some ⟨C, 0, none⟩) 256 256, nv, ev] 30 (0, 0)) := by
  have hws := h.turn.size
  exact (hg.block _ (by simp; omega) (fun e => by have := (hu.lt _ e.symm).1; omega)).trans ((alloc_old (by omega)).trans h.dbox)
/-- the inner walk; Wb: the memory when the round began -/
structure JMid (Wb : World) (g0 : Nat) (rv0 : Value) (W : World) (rows : List Pr) (acc : List Int) (rv nx : Value) : Prop where
  turn : Turn (fun g => rv0.ownBlock = some g) Wb W
  rws : OwnPrs W g0 rv rows
  rvb : rv.ownBlock = rv0.ownBlock ∨ ∃ g, rv.ownBlock = some g ∧ Wb.heap.size ≤ g
  nx : OwnInts W Wb.heap.size nx acc
theorem JMid.start {Wl Wb : World} {Bd g0 C : Nat} {rows : List Pr} {next : List (List Int)} {fin : List Bool} {rv nv ev : Value} (h : JBase Wl Bd g0 C Wb rows next fin rv nv ev) : JMid Wb g0 rv Wb rows [] rv (.slice none 0 0) :=
  ⟨Turn.refl _ _, h.rws, .inl rfl, World.ownsRow_nil _ _ _ _⟩
theorem JMid.below {Wb W W' : World} {g0 : Nat} {rv0 rv nx : Value} {rows : List Pr} {acc : List Int} (h : JMid Wb g0 rv0 W rows acc rv nx) (k : Below W.heap.size W W') : JMid Wb g0 rv0 W' rows acc rv nx :=
  ⟨h.turn.trans (Turn.of_below k), own_later h.rws k, h.rvb, own_later h.nx k⟩
theorem JMid.addRow {Wb W W2 : World} {g0 : Nat} {rv0 rv rv' nx : Value} {rows : List Pr} {acc : List Int} {r : Pr} {o : Obj} (h : JMid Wb g0 rv0 W rows acc rv nx)
    (hown : W2.ownsRow g0 97 2 rv' (rows.length + 1) (flatP rows ++ r.cs.toList)) (hg : (W.alloc o).grownBy W2 rv.ownBlock) (hat : rv'.ownBlock = rv.ownBlock ∨ rv'.ownBlock = some (W.alloc o).heap.size) :
    JMid Wb g0 rv0 W2 (rows ++ [r]) acc rv' nx := by
  have hws := h.turn.size
  have hsame : ∀ g, g < W.heap.size → rv.ownBlock ≠ some g → W2.heap[g]? = W.heap[g]? := fun g hgl hne => (hg.block g (by simp; omega) (fun e => hne e.symm)).trans (alloc_old hgl)
  refine ⟨(h.turn.alloc o).grown' hg fun g hg => ?_, ?_, ?_, own_blk h.nx fun g hg => hsame g (own_lt h.nx hg).2 (own_apart3 h.nx h.rws (by decide) g hg)⟩
  · rcases h.rvb with e | ⟨g', e, hl⟩
    · rw [e] at hg; exact .inl hg
    · rw [e] at hg; cases hg; exact .inr hl
  · unfold OwnPrs
    rw [List.length_append, flatP_snoc]
    exact hown
  · rcases hat with e | e
    · rw [e]; exact h.rvb
    · exact .inr ⟨_, e, by simp; omega⟩
theorem JMid.push {Wb W W2 : World} {g0 : Nat} {rv0 rv nx nx' : Value} {rows : List Pr} {acc : List Int} {x : Int} {o : Obj} (h : JMid Wb g0 rv0 W rows acc rv nx)
    (hown : W2.ownsRow Wb.heap.size 3 1 nx' (acc.length + 1) (acc.map iV ++ [iV x])) (hg : (W.alloc o).grownBy W2 nx.ownBlock) :
    JMid Wb g0 rv0 W2 rows (acc ++ [x]) rv nx' := by
  have hsame : ∀ g, g < W.heap.size → nx.ownBlock ≠ some g → W2.heap[g]? = W.heap[g]? := fun g hgl hne => (hg.block g (by simp; omega) (fun e => hne e.symm)).trans (alloc_old hgl)
  refine ⟨(h.turn.alloc o).grown' hg fun g hg => .inr (own_lt h.nx hg).1, own_blk h.rws fun g hg => hsame g (own_lt h.rws hg).2 (own_apart3 h.rws h.nx (by decide) g hg), h.rvb, ?_⟩
  unfold OwnInts
  rw [List.length_append, List.map_append]
  exact hown
theorem JBase.mid {Wl Wb W : World} {Bd g0 C : Nat} {rows rows' : List Pr} {next : List (List Int)} {fin : List Bool} {rv0 rv nv ev nx : Value} {acc : List Int} (h : JBase Wl Bd g0 C Wb rows next fin rv0 nv ev) (hm : JMid Wb g0 rv0 W rows' acc rv nx) (hbd : Bd < Wl.heap.size) (h1 : Bd ≠ g0) :
    JBase Wl Bd g0 C W rows' next fin rv nv ev := by
  have hws := h.turn.size
  refine ⟨h.turn.then hm.turn fun g hg => ?_, (hm.turn.block _ (lt_of_heap h.dbox) (fun hs => ?_)).trans h.dbox, hm.rws, fun g hg => ?_, h.nxt.keep (fun g hl hg _ ht => hm.turn.block g hg (fun e => ?_)) (fun _ _ h => h), own_blk h.fins fun g hg => hm.turn.block g (own_lt h.fins hg).2 (own_apart3 h.fins h.rws (by decide) g hg)⟩
  · exact (h.rvb g hg).elim (fun e => .inl (.inr e)) .inr
  · rcases h.rvb _ hs with e | e
    · exact h1 e
    · omega
  · rcases hm.rvb with e | ⟨g', e, hl⟩
    · rw [e] at hg; exact h.rvb g hg
    · rw [e] at hg; cases hg; exact .inr (by omega)
  · obtain ⟨cur, hc⟩ := own_tag h.rws e
    have := ht _ _ _ hc
    revert this; decide
theorem JBase.addNext {Wl W W2 : World} {Bd g0 C : Nat} {rows : List Pr} {next : List (List Int)} {fin : List Bool} {rv nv ev nv' v : Value} {vs : List Value} {o : Obj} {l : List Int} (h : JBase Wl Bd g0 C W rows next fin rv nv ev) (hbd : Bd < Wl.heap.size) (h1 : Bd ≠ g0)
    (hvs : W.ownsRow Wl.heap.size 22 1 nv vs.length vs) (hlen : vs.length = next.length) (hrows : ∀ (i : Nat) (v : Value) (l : List Int), vs[i]? = some v → next[i]? = some l → OwnInts W Wl.heap.size v l ∧ ∀ g, v.ownBlock = some g → ¬ False)
    (hv : OwnInts W Wl.heap.size v l) (hown : W2.ownsRow Wl.heap.size 22 1 nv' (vs.length + 1) (vs ++ [v])) (hg : (W.alloc o).grownBy W2 nv.ownBlock) :
    JBase Wl Bd g0 C (W2.setCell ⟨Bd, 1, none⟩ nv') rows (next ++ [l]) fin rv nv' ev := by
  have hws := h.turn.size
  have hnb : nv.ownBlock ≠ some Bd := fun e => by have := (own_lt hvs e).1; omega
  have hd2 := h.dbox2 hbd hvs hg
  have htu : Turn (fun g => g = Bd ∨ nv.ownBlock = some g) W (W2.setCell ⟨Bd, 1, none⟩ nv') := (((Turn.refl _ W).alloc o).grown hg (fun g e => .inr e)).setCell (.inl rfl) _
  have hsame : ∀ g, g < W.heap.size → g ≠ Bd → nv.ownBlock ≠ some g → (W2.setCell ⟨Bd, 1, none⟩ nv').heap[g]? = W.heap[g]? := fun g hg h3 h4 => htu.block g hg fun h5 => h5.elim h3 h4
  have hints : ∀ {u : Value} {xs : List Int}, OwnInts W Wl.heap.size u xs → OwnInts (W2.setCell ⟨Bd, 1, none⟩ nv') Wl.heap.size u xs := fun hu => own_blk hu fun g hg => hsame g (own_lt hu hg).2 (by have := (own_lt hu hg).1; omega) (own_apart hu hvs (by decide) g hg)
  have hrb : ∀ g, rv.ownBlock = some g → g ≠ Bd := fun g hg e => by
    rcases h.rvb g hg with e' | e'
    · exact h1 (e.symm.trans e')
    · omega
  refine ⟨h.turn.then htu fun g hg => ?_, three_set1 _ hd2, own_blk h.rws fun g hg => hsame g (own_lt h.rws hg).2 (hrb g hg) (own_apart3 h.rws hvs (by decide) g hg), h.rvb, ⟨⟨vs ++ [v], ?_, by simp [hlen], fun i u xs e1 e2 => ?_⟩, fun g hg hf => hf⟩, own_blk h.fins (fun g hg => hsame g (own_lt h.fins hg).2 (by have := (own_lt h.fins hg).1; omega) (own_apart h.fins hvs (by decide) g hg))⟩
  · rcases hg with rfl | hg
    · exact .inl (.inl rfl)
    · exact .inr (own_lt hvs hg).1
  · have := own_set (i := 1) (u := nv') hown hd2 (by decide)
    rw [List.length_append]
    exact this
  · rcases append_get e1 with e1 | ⟨rfl, rfl⟩
    · have hi := (List.getElem?_eq_some_iff.1 e1).1
      rw [List.getElem?_append_left (by omega)] at e2
      exact ⟨hints (hrows i u xs e1 e2).1, (hrows i u xs e1 e2).2⟩
    · rw [hlen, List.getElem?_append_right (Nat.le_refl _), Nat.sub_self] at e2
      cases e2
      exact ⟨hints hv, fun _ _ h => h⟩
theorem JBase.addFin {Wl W W2 : World} {Bd g0 C : Nat} {rows : List Pr} {next : List (List Int)} {fin : List Bool} {rv nv ev ev' : Value} {o : Obj} {x : Bool} (h : JBase Wl Bd g0 C W rows next fin rv nv ev) (hbd : Bd < Wl.heap.size) (h1 : Bd ≠ g0)
    (hown : W2.ownsRow Wl.heap.size 4 1 ev' (fin.length + 1) (fin.map Value.bool ++ [.bool x])) (hg : (W.alloc o).grownBy W2 ev.ownBlock) :
    JBase Wl Bd g0 C (W2.setCell ⟨Bd, 2, none⟩ ev') rows next (fin ++ [x]) rv nv ev' := by
  have hws := h.turn.size
  have hvs := h.fins
  have hd2 := h.dbox2 hbd hvs hg
  have htu : Turn (fun g => g = Bd ∨ ev.ownBlock = some g) W (W2.setCell ⟨Bd, 2, none⟩ ev') := (((Turn.refl _ W).alloc o).grown hg (fun g e => .inr e)).setCell (.inl rfl) _
  have hsame : ∀ g, g < W.heap.size → g ≠ Bd → ev.ownBlock ≠ some g → (W2.setCell ⟨Bd, 2, none⟩ ev').heap[g]? = W.heap[g]? := fun g hg h3 h4 => htu.block g hg fun h5 => h5.elim h3 h4
  have hrb : ∀ g, rv.ownBlock = some g → g ≠ Bd := fun g hg e => by
    rcases h.rvb g hg with e' | e'
    · exact h1 (e.symm.trans e')
    · omega
  refine ⟨h.turn.then htu fun g hg => ?_, three_set2 _ hd2, own_blk h.rws fun g hg => hsame g (own_lt h.rws hg).2 (hrb g hg) (own_apart3 h.rws hvs (by decide) g hg), h.rvb, h.nxt.keep (fun g hl hg _ ht => hsame g hg (by omega) (fun e => ?_)) (fun _ _ h => h), ?_⟩
  · rcases hg with rfl | hg
    · exact .inl (.inl rfl)
    · exact .inr (own_lt hvs hg).1
  · obtain ⟨cur, hc⟩ := own_tag hvs e
    have := ht _ _ _ hc
    revert this; decide
  · have := own_set (i := 2) (u := ev') hown hd2 (by decide)
    unfold OwnBools
    rw [List.length_append, List.map_append]
    exact this
/-- the way's number, and what it says -/
def waysF (k : Nat) (x y : Bool) : Bool := if k = 0 then x && y else if k = 1 then x || y else if k = 2 then x && !y else x != y
set_option maxRecDepth 100000 in
theorem endR_any (x y : Bool) (k : Nat) (hk : k < 4) (w : World) :
    Calls Tryd.prog 70 #[.bool x, .bool y, .int .i64 k] w fun e w' => e = .returned (.bool (waysF k x y)) ∧ w' = w := by
  match k, hk with
  | 0, _ =>
    cases x <;> cases y
    all_goals go_enter Tryd.func70, Tryd.ntmps70
    all_goals go_wp2_with fail
    all_goals go_ret
    all_goals exact ⟨rfl, rfl⟩
  | 1, _ =>
    cases x <;> cases y
    all_goals go_enter Tryd.func70, Tryd.ntmps70
    all_goals go_wp2_with fail
    all_goals go_ret
    all_goals exact ⟨rfl, rfl⟩
  | 2, _ =>
    cases x <;> cases y
    all_goals go_enter Tryd.func70, Tryd.ntmps70
    all_goals go_wp2_with fail
    all_goals go_ret
    all_goals exact ⟨rfl, rfl⟩
  | 3, _ =>
    cases x <;> cases y
    all_goals go_enter Tryd.func70, Tryd.ntmps70
    all_goals go_wp2_with fail
    all_goals go_ret
    all_goals exact ⟨rfl, rfl⟩
end Go.Proofs.YtfjomnhdmkbkiaaDoor.Im

namespace Go.Proofs.YtfjomnhdmkbkiaaDoor.Im
open Go.RowKit Go.Lib Go.Maps Go.Shelf

/-- at the head of the reference's loop -/
structure RNot (Wl : World) (Bd : Nat) (cv nv : Value) (W : World) (fin : List Bool) (ev : Value) : Prop where
  turn : Turn (fun g => g = Bd) Wl W
  dbox : W.heap[Bd]? = some (.cells #[cv, nv, ev] 30 (0, 0))
  fins : OwnBools W Wl.heap.size ev fin
theorem RNot.below {Wl W W' : World} {Bd : Nat} {cv nv ev : Value} {fin : List Bool} (h : RNot Wl Bd cv nv W fin ev) (k : Below W.heap.size W W') : RNot Wl Bd cv nv W' fin ev :=
  ⟨h.turn.trans (Turn.of_below k), (k.block _ (lt_of_heap h.dbox)).trans h.dbox, own_later h.fins k⟩
theorem RNot.dbox2 {Wl W W2 : World} {Bd e k m : Nat} {cv nv ev u : Value} {xs : List Value} {fin : List Bool} {o : Obj} (h : RNot Wl Bd cv nv W fin ev) (hbd : Bd < Wl.heap.size) (hu : W.ownsRow Wl.heap.size e k u m xs) (hg : (W.alloc o).grownBy W2 u.ownBlock) :
    W2.heap[Bd]? = some (.cells #[cv, nv, ev] 30 (0, 0)) := by
  have hws := h.turn.size
  exact (hg.block _ (by simp; omega) (fun e => by have := (hu.lt _ e.symm).1; omega)).trans ((alloc_old (by omega)).trans h.dbox)
theorem RNot.addFin {Wl W W2 : World} {Bd : Nat} {cv nv ev ev' : Value} {fin : List Bool} {o : Obj} {x : Bool} (h : RNot Wl Bd cv nv W fin ev) (hbd : Bd < Wl.heap.size)
    (hown : W2.ownsRow Wl.heap.size 4 1 ev' (fin.length + 1) (fin.map Value.bool ++ [.bool x])) (hg : (W.alloc o).grownBy W2 ev.ownBlock) :
    RNot Wl Bd cv nv (W2.setCell ⟨Bd, 2, none⟩ ev') (fin ++ [x]) ev' := by
  have hws := h.turn.size
  have hvs := h.fins
  have hd2 := h.dbox2 hbd hvs hg
  have htu : Turn (fun g => g = Bd ∨ ev.ownBlock = some g) W (W2.setCell ⟨Bd, 2, none⟩ ev') := (((Turn.refl _ W).alloc o).grown hg (fun g e => .inr e)).setCell (.inl rfl) _
  refine ⟨h.turn.then htu fun g hg => ?_, three_set2 _ hd2, ?_⟩
  · rcases hg with rfl | hg
    · exact .inl rfl
    · exact .inr (own_lt hvs hg).1
  · have := own_set (i := 2) (u := ev') hown hd2 (by decide)
    unfold OwnBools
    rw [List.length_append, List.map_append]
    exact this
set_option maxRecDepth 100000 in
set_option maxHeartbeats 16000000 in
theorem notR_any {F : Nat → Prop} {w : World} {a1 a2 a3 : Value} {a : Dfa} (ha : DfaIn F w a1 a2 a3 a) (hF : ∀ g, F g → g < w.heap.size) :
    Calls Tryd.prog 35 #[.agg #[a1, a2, a3]] w fun e w' => ∃ x1 c1 x2 c2 x3 c3, e = .returned (.tuple #[.agg #[.slice x1 (outX (notM a)).1.cls.length c1, .slice x2 (outX (notM a)).1.next.length c2, .slice x3 (outX (notM a)).1.fin.length c3], .int .i64 (outX (notM a)).2]) ∧ DfaIn (fun g => g < w'.heap.size) w' (.slice x1 (outX (notM a)).1.cls.length c1) (.slice x2 (outX (notM a)).1.next.length c2) (.slice x3 (outX (notM a)).1.fin.length c3) (outX (notM a)).1 ∧ Below w.heap.size w w' := by
  obtain ⟨W0, hW0⟩ : ∃ W0, W0 = (w.alloc (.cells #[a1, a2, a3] 30)).alloc (.cells #[.slice none 0 0, .slice none 0 0, .slice none 0 0] 30) := ⟨_, rfl⟩
  have hA0 : W0.heap[w.heap.size]? = some (.cells #[a1, a2, a3] 30 (0, 0)) := by rw [hW0]; exact (alloc_old (by simp)).trans (heap_alloc_new _ _)
  have hR0 : W0.heap[w.heap.size + 1]? = some (.cells #[.slice none 0 0, .slice none 0 0, .slice none 0 0] 30 (0, 0)) := by rw [hW0]; exact newB _ _ _
  have hB0 : Below w.heap.size w W0 := by rw [hW0]; exact ((Below.refl _ _).alloc (Nat.le_refl _) _).alloc (by simp) _
  have hz0 : W0.heap.size = w.heap.size + 2 := by rw [hW0]; simp
  have HBW := hid (fun (W : World) (h : Below W0.heap.size W0 W) => hB0.trans (h.mono hB0.size))
  have HAW := hid (fun (W : World) (h : Below W0.heap.size W0 W) => (show DfaIn F W a1 a2 a3 a from ha.frame (fun _ h => h) (fun g hg _ => (HBW.out W h).block g (hF g hg))))
  have HF := hid hF
  have HXA := hid (fun (W : World) (h : Below W0.heap.size W0 W) => (h.block w.heap.size (lt_of_heap hA0)).trans hA0)
  have HRW := hid (fun (W : World) (h : Below W0.heap.size W0 W) => (h.block (w.heap.size + 1) (lt_of_heap hR0)).trans hR0)
  have HTH := hid (fun (W W' : World) (h : Below W0.heap.size W0 W) (h' : Below W.heap.size W W') => h.trans (h'.mono h.size))
  obtain ⟨ada, cpa, rfl, hma, _⟩ := ha.cls
  obtain ⟨adb, cpb, rfl, hmb, _⟩ := ha.next
  obtain ⟨adc, cpc, rfl, hmc, _⟩ := ha.fin
  unfold maxLen at hma hmb hmc
  have HW0 := hid hW0
  have HZ0 := hid hz0
  clear ha hF hA0 hR0 hB0 hW0 hz0
  obtain ⟨q0, q1, q2⟩ := dcells (HXA.out W0 (Below.refl _ _))
  have hch := rightR_any (HAW.out W0 (Below.refl _ _)) (fun g hg => Nat.lt_of_lt_of_le (HF.out g hg) (HBW.out W0 (Below.refl _ _)).size)
  go_enter Tryd.func35, Tryd.ntmps35
  go_upto_region 1 with fail
  rw [← HW0.out]
  cases hok : dfaOk a with
  | false =>
    have HNO := hid (not_bad (a := a) (by rw [hok]; decide))
    rw [hok] at hch
    clear hok
    go_wp2_with fail
    refine hch.mono ?_
    clear hch q0 q1 q2
    rintro e w1 ⟨rfl, hb1⟩
    have H1 := hid (HTH.out _ _ (Below.refl _ _) hb1)
    have HRES := hid (HRW.out w1 H1.out)
    clear hb1
    go_wp2_with (refine wpList_store_same rfl 30 (.tmp 2) (.tmp 9) rfl 3 infoDfa (w.heap.size + 1) 30 _ HRES.out rfl (by rfl) (by rfl) rfl ?_)
    refine bodyPost_ret (results_cell_one (ty := 30) rfl _ _ (w.heap.size + 1) 30 _ (0, 0) _ rfl HRES.out Tryd.underlying30 rfl (by kernel_rfl)) rfl ?_
    rw [HNO.out]
    exact ⟨none, 0, none, 0, none, 0, rfl, ⟨⟨none, 0, rfl, Nat.zero_le _, fun h => absurd rfl h⟩, ⟨none, 0, rfl, Nat.zero_le _, fun h => absurd rfl h⟩, ⟨none, 0, rfl, Nat.zero_le _, fun h => absurd rfl h⟩⟩, HBW.out _ H1.out⟩
  | true =>
    have HYES := hid (show notM a = .ok ⟨a.cls, a.next, a.fin.map (!·)⟩ by unfold notM; rw [if_pos hok])
    have HN1 := hid (show a.next.length ≤ 1024 ∧ a.fin.length = a.next.length by
      obtain ⟨_, _, _, _, h2, h3, _⟩ := dfaOk_parts hok
      exact ⟨h2, h3⟩)
    rw [hok] at hch
    clear hok
    go_wp2_with fail
    refine hch.mono ?_
    clear hch q0 q1 q2
    rintro e w1 ⟨rfl, hb1⟩
    have H1 := hid (HTH.out _ _ (Below.refl _ _) hb1)
    clear hb1
    obtain ⟨q0, q1, q2⟩ := dcells (HXA.out w1 H1.out)
    go_upto_region 4 with fail
    obtain ⟨Wl, hWl⟩ : ∃ Wl, Wl = w1.alloc (.cells #[.slice ada a.cls.length cpa, .slice adb a.next.length cpb, .slice none 0 0] 30) := ⟨_, rfl⟩
    have HBl := hid (show Below w1.heap.size w1 Wl by rw [hWl]; exact (Below.refl _ _).alloc (Nat.le_refl _) _)
    have HDl := hid (show Wl.heap[w1.heap.size]? = some (.cells #[.slice ada a.cls.length cpa, .slice adb a.next.length cpb, .slice none 0 0] 30 (0, 0)) by rw [hWl]; exact heap_alloc_new _ _)
    have HZl := hid (show Wl.heap.size = w1.heap.size + 1 by rw [hWl]; simp)
    have Hl := hid (HTH.out _ _ H1.out HBl.out)
    have hbd0 : w.heap.size + 2 ≤ w1.heap.size := by have := H1.out.size; have := HZ0.out; omega
    rw [← hWl]
    clear hWl HBl q0 q1 q2
    have hzl := HZl.out
    generalize w1.heap.size = Bd at *
    have hbd : Bd < Wl.heap.size := by omega
    have HXT := hid (fun (W : World) (h : Turn (fun g => g = Bd) Wl W) => (show W.heap[w.heap.size]? = some (.cells #[.slice ada a.cls.length cpa, .slice adb a.next.length cpb, .slice adc a.fin.length cpc] 30 (0, 0)) from (h.block _ (by omega) (fun e => by omega)).trans (HXA.out Wl Hl.out)))
    have HRT := hid (fun (W : World) (h : Turn (fun g => g = Bd) Wl W) => (show W.heap[w.heap.size + 1]? = some (.cells #[.slice none 0 0, .slice none 0 0, .slice none 0 0] 30 (0, 0)) from (h.block _ (by omega) (fun e => by omega)).trans (HRW.out Wl Hl.out)))
    have HAT := hid (fun (W : World) (h : Turn (fun g => g = Bd) Wl W) => (show DfaIn F W (.slice ada a.cls.length cpa) (.slice adb a.next.length cpb) (.slice adc a.fin.length cpc) a from (HAW.out Wl Hl.out).frame (fun _ h => h) (fun g hg hgl => h.block g hgl (fun e => by have := HF.out g hg; omega))))
    have HBT := hid (fun (W : World) (h : Turn (fun g => g = Bd) Wl W) => (show Below w.heap.size w W from (HBW.out Wl Hl.out).trans (h.below (by omega) (fun g hg => by omega))))
    obtain ⟨iB, hi, hz0, hz1, hz2⟩ := info_parts infoL
    have HIB := hid hi
    have HZB := hid (And.intro hz0 (And.intro hz1 hz2))
    clear hi hz0 hz1 hz2
    have HBL := hid (show RNot Wl Bd (.slice ada a.cls.length cpa) (.slice adb a.next.length cpb) Wl [] (.slice none 0 0) from ⟨Turn.refl _ _, HDl.out, World.ownsRow_nil _ _ _ _⟩)
    clear HAW HXA HRW HTH HBW HDl HZl H1 Hl HW0
    go_wp2_with fail
    go_loopw [5] (fun i wr => ∃ (k : Nat) (ev : Value), k ≤ a.fin.length ∧ i = .int .i64 k ∧ RNot Wl Bd (.slice ada a.cls.length cpa) (.slice adb a.next.length cpb) wr ((a.fin.take k).map (!·)) ev) (fun i _ => a.fin.length - (intOf i).toNat)
    case atStart => exact ⟨0, .slice none 0 0, Nat.zero_le _, rfl, HBL.out⟩
    case round =>
      obtain ⟨k, ev, hk, rfl, hbase⟩ := hrel
      have HB := hid hbase
      have HT := hid hbase.turn
      have hzw := hbase.turn.size
      have v2 := cell_blk (i := 2) (HXT.out wr hbase.turn) rfl
      clear hbase
      by_cases hfl : k < a.fin.length
      · obtain ⟨gb, ob, hgb0, hgb1, v5⟩ := bools_at (HAT.out wr HT.out).fin hfl
        subst hgb0
        have hgb : gb < w.heap.size := HF.out gb hgb1
        have HFIN := hid (show (a.fin.take (k + 1)).map (!·) = (a.fin.take k).map (!·) ++ [!a.fin[k]] by rw [take_succ' _ _ hfl, List.map_append]; rfl)
        have HLEN := hid (show ((a.fin.take k).map (!·)).length = k by simp; omega)
        generalize a.fin[k] = fx at *
        generalize (a.fin.take k).map (!·) = fi at *
        have hfm : fi.length ≤ 1024 := by have h1 := HLEN.out; have := HN1.out; omega
        have v0 := cell_blk (i := 2) HB.out.dbox rfl
        obtain ⟨ade, cpe, rfl⟩ := own_shape HB.out.fins
        go_upto_region 7 with fail
        have HKQ := hid (fun (W : World) (h : ∀ g, g < Wl.heap.size → W.heap[g]? = wr.heap[g]?) => (show (fun W : World => W.cell? ⟨Bd, 2, none⟩ = some (.slice ade fi.length cpe) ∧ W.cell? ⟨w.heap.size, 2, none⟩ = some (.slice (some ⟨gb, ob, none⟩) a.fin.length cpc) ∧ W.cell? ⟨gb, ob + k, none⟩ = some (.bool fx)) W from ⟨(cell_heap (h _ hbd)).trans v0, (cell_heap (h _ (by omega))).trans v2, (cell_heap (h _ (by omega))).trans v5⟩))
        have HB7 := hid (HB.out.below ((Below.refl _ wr).drew))
        have HS := hid (HKQ.out wr.drew (fun _ _ => rfl))
        have HK0 := hid (show ∀ g, g < Wl.heap.size → wr.drew.heap[g]? = wr.heap[g]? from fun _ _ => rfl)
        refine Till.start (S := (fun W : World => W.cell? ⟨Bd, 2, none⟩ = some (.slice ade fi.length cpe) ∧ W.cell? ⟨w.heap.size, 2, none⟩ = some (.slice (some ⟨gb, ob, none⟩) a.fin.length cpc) ∧ W.cell? ⟨gb, ob + k, none⟩ = some (.bool fx))) (n := 11) (by kernel_rfl) ?_
        clear v0 v2 v5
        generalize wr.drew = wd at *
        refine Till.take (i := 0) (v := .pointer (some ⟨Bd, 2, none⟩)) rfl (by kernel_rfl) (fun _ _ _ h => h) (Or.inl ⟨by rfl, fun w hS => by go_simp⟩) HS.out ?_
        simp only [Act.put, List.getElem_toArray, List.getElem_cons_zero, List.getElem_cons_succ, List.setIfInBounds_toArray, List.set_cons_zero, List.set_cons_succ]
        refine Till.take (i := 1) (v := .slice ade fi.length cpe) rfl (by kernel_rfl) (fun _ _ _ h => h) (Or.inl ⟨by rfl, fun w hS => by have k0 := hS.1; have k1 := hS.2.1; have k2 := hS.2.2; go_simp⟩) HS.out ?_
        simp only [Act.put, List.getElem_toArray, List.getElem_cons_zero, List.getElem_cons_succ, List.setIfInBounds_toArray, List.set_cons_zero, List.set_cons_succ]
        refine Till.take (i := 2) (v := .pointer (some ⟨w.heap.size, 2, none⟩)) rfl (by kernel_rfl) (fun _ _ _ h => h) (Or.inl ⟨by rfl, fun w hS => by go_simp⟩) HS.out ?_
        simp only [Act.put, List.getElem_toArray, List.getElem_cons_zero, List.getElem_cons_succ, List.setIfInBounds_toArray, List.set_cons_zero, List.set_cons_succ]
        refine Till.take (i := 3) (v := .slice (some ⟨gb, ob, none⟩) a.fin.length cpc) rfl (by kernel_rfl) (fun _ _ _ h => h) (Or.inl ⟨by rfl, fun w hS => by have k0 := hS.1; have k1 := hS.2.1; have k2 := hS.2.2; go_simp⟩) HS.out ?_
        simp only [Act.put, List.getElem_toArray, List.getElem_cons_zero, List.getElem_cons_succ, List.setIfInBounds_toArray, List.set_cons_zero, List.set_cons_succ]
        refine Till.take (i := 4) (v := .int .i64 k) rfl (by kernel_rfl) (fun _ _ _ h => h) (Or.inl ⟨by rfl, fun w hS => by go_simp⟩) HS.out ?_
        simp only [Act.put, List.getElem_toArray, List.getElem_cons_zero, List.getElem_cons_succ, List.setIfInBounds_toArray, List.set_cons_zero, List.set_cons_succ]
        refine Till.take (i := 5) (v := .pointer (some ⟨gb, ob + k, none⟩)) rfl (by kernel_rfl) (fun _ _ _ h => h) (Or.inl ⟨by rfl, fun w hS => by go_simp⟩) HS.out ?_
        simp only [Act.put, List.getElem_toArray, List.getElem_cons_zero, List.getElem_cons_succ, List.setIfInBounds_toArray, List.set_cons_zero, List.set_cons_succ]
        refine Till.take (i := 6) (v := .bool fx) rfl (by kernel_rfl) (fun _ _ _ h => h) (Or.inl ⟨by rfl, fun w hS => by have k0 := hS.1; have k1 := hS.2.1; have k2 := hS.2.2; go_simp⟩) HS.out ?_
        simp only [Act.put, List.getElem_toArray, List.getElem_cons_zero, List.getElem_cons_succ, List.setIfInBounds_toArray, List.set_cons_zero, List.set_cons_succ]
        refine Till.take (i := 7) (v := .bool (!fx)) rfl (by kernel_rfl) (fun _ _ _ h => h) (Or.inl ⟨by rfl, fun w hS => by go_simp⟩) HS.out ?_
        simp only [Act.put, List.getElem_toArray, List.getElem_cons_zero, List.getElem_cons_succ, List.setIfInBounds_toArray, List.set_cons_zero, List.set_cons_succ]
        refine Till.all (rs := [8]) (by kernel_rfl) (by simp) (Each.cons rfl (fun K hK => ?_) Each.nil)
        go_simp
        have hz7 := HB7.out.turn.size
        refine hK.out _ _ (fun _ => HKQ.out _ (fun g hg => (alloc_old (by omega)).trans (HK0.out g hg))) ?_
        clear hK K
        refine Till.all (rs := [9]) (by kernel_rfl) (by simp) (Each.cons rfl (fun K hK => ?_) Each.nil)
        refine step_append rfl (.tmp 23) (.tmp 30) 28 rfl Wl.heap.size 4 iB (.bool false) 1 1 Tryd.underlying28 HIB.out HZB.out.1 HZB.out.2.1 HZB.out.2.2 rfl (by decide) (.slice ade fi.length cpe) fi.length (fi.map Value.bool) (by rfl) (HB7.out.fins.alloc _) ⟨wd.heap.size, 0, none⟩ 1 1 [.bool (!fx)] (by rfl) rfl (cell_one_new _ _ _) (one_cell_one rfl) (by unfold maxLen; omega) (by omega) (by simp; omega) ?_
        intro ev' w9 ho9 hg9 _
        obtain ⟨ade', cpe', rfl⟩ := own_shape ho9
        have HO9 := hid ho9
        have HG9 := hid hg9
        have hd9 := HB7.out.dbox2 hbd HB7.out.fins hg9
        have y1 := cell_blk (i := 2) hd9 rfl
        have y2 := free_box (i := 2) hd9
        have HS9 := hid (HKQ.out w9 (fun g hg => (hg9.block g (by simp; omega) (fun e => by have := (HB7.out.fins.lt _ e.symm).1; omega)).trans ((alloc_old (by omega)).trans (HK0.out g hg))))
        refine hK.out _ _ (fun _ => HS9.out) ?_
        clear hK K ho9 hg9 hd9
        simp only [Act.put, List.getElem_toArray, List.getElem_cons_zero, List.getElem_cons_succ, List.setIfInBounds_toArray, List.set_cons_zero, List.set_cons_succ]
        refine Till.take (i := 10) (v := .pointer (some ⟨Bd, 2, none⟩)) rfl (by kernel_rfl) (fun _ _ _ h => h) (Or.inl ⟨by rfl, fun w hS => by go_simp⟩) HS9.out ?_
        simp only [Act.put, List.getElem_toArray, List.getElem_cons_zero, List.getElem_cons_succ, List.setIfInBounds_toArray, List.set_cons_zero, List.set_cons_succ]
        refine Till.all (rs := [11]) (by kernel_rfl) (by simp) (Each.cons rfl (fun K hK => ?_) Each.nil)
        go_simp
        refine hK.out _ _ (fun h => absurd h (by decide)) ?_
        clear hK K
        refine Till.done (by kernel_rfl) ?_ _
        have HB9 := hid (HB7.out.addFin hbd (x := !fx) HO9.out HG9.out)
        go_wp2_with fail
        refine And.intro ?_ ?_
        · exact ⟨k + 1, _, by omega, by go_num, by rw [HFIN.out]; exact HB9.out⟩
        · simp [intOf]; omega
      · obtain rfl : k = a.fin.length := by omega
        have hb0 := HB.out
        rw [List.take_length] at hb0
        have HB0 := hid hb0
        clear hb0
        obtain ⟨ade, cpe, rfl⟩ := own_shape HB0.out.fins
        have HTU := hid (show Turn (fun g => g = w.heap.size + 1) wr (wr.setRow (w.heap.size + 1) #[.slice ada a.cls.length cpa, .slice adb a.next.length cpb, .slice ade (a.fin.map (!·)).length cpe]) from turn_setRow (S := fun g => g = w.heap.size + 1) rfl _)
        have H1 := hid (setRow_heap (HRT.out wr HT.out) #[.slice ada a.cls.length cpa, .slice adb a.next.length cpb, .slice ade (a.fin.map (!·)).length cpe])
        have HBE := hid ((HBT.out wr HT.out).trans (HTU.out.below (by omega) (fun g hg => by omega)))
        have HDF := hid (show DfaIn (fun g => g < (wr.setRow (w.heap.size + 1) #[.slice ada a.cls.length cpa, .slice adb a.next.length cpb, .slice ade (a.fin.map (!·)).length cpe]).heap.size) (wr.setRow (w.heap.size + 1) #[.slice ada a.cls.length cpa, .slice adb a.next.length cpb, .slice ade (a.fin.map (!·)).length cpe]) (.slice ada a.cls.length cpa) (.slice adb a.next.length cpb) (.slice ade (a.fin.map (!·)).length cpe) ⟨a.cls, a.next, a.fin.map (!·)⟩ from
          ⟨(HAT.out wr HT.out).cls.frame (fun g hg => by have := HF.out g hg; have := HTU.out.size; omega) (fun g hg hl => HTU.out.block g hl (fun e => by have := HF.out g hg; omega)), (HAT.out wr HT.out).next.frame (fun g hg => by have := HF.out g hg; have := HTU.out.size; omega) (fun g hg hl => HTU.out.block g hl (fun e => by have := HF.out g hg; omega)),
            (bools_of_own HB0.out.fins (own_max HB0.out.fins)).frame (fun g hg => by have := hg.2; have := HTU.out.size; omega) (fun g hg hl => HTU.out.block g hl (fun e => by have := hg.1; omega))⟩)
        go_upto_region 8 with fail
        go_step
        refine wpList_load_blk rfl 30 (.tmp 4) rfl 3 infoDfa _ Tryd.underlying30 rfl Bd rfl 30 _ HB0.out.dbox rfl ?_
        refine wpList_store_blk rfl 30 (.tmp 2) (.tmp 33) rfl 3 infoDfa (w.heap.size + 1) 30 _ (HRT.out wr HT.out) rfl #[.slice ada a.cls.length cpa, .slice adb a.next.length cpb, .slice ade (a.fin.map (!·)).length cpe] (by rfl) (by rfl) rfl rfl ?_
        generalize wr.setRow (w.heap.size + 1) #[.slice ada a.cls.length cpa, .slice adb a.next.length cpb, .slice ade (a.fin.map (!·)).length cpe] = W5 at *
        go_wp2_with fail
        refine bodyPost_ret (results_cell_one (ty := 30) rfl _ _ (w.heap.size + 1) 30 _ (0, 0) _ rfl H1.out Tryd.underlying30 rfl (by kernel_rfl)) rfl ?_
        rw [HYES.out]
        exact ⟨_, _, _, _, _, _, rfl, HDF.out, HBE.out⟩
end Go.Proofs.YtfjomnhdmkbkiaaDoor.Im

namespace Go.Proofs.YtfjomnhdmkbkiaaDoor.Im
open Go.RowKit Go.Lib Go.Maps Go.Shelf

section
variable {α : Type} [DecidableEq α]
/-- the search for a place, so far -/
def atF (rows : List α) (t : α) (j : Nat) : Nat := if rows.idxOf t < j then rows.idxOf t else rows.length
theorem atF_zero (rows : List α) (t : α) : atF rows t 0 = rows.length := by unfold atF; rw [if_neg (Nat.not_lt_zero _)]
theorem atF_end (rows : List α) (t : α) : atF rows t rows.length = rows.idxOf t := by
  unfold atF
  have := List.idxOf_le_length (a := t) (l := rows)
  split <;> omega
theorem atF_step {rows : List α} {t : α} {j : Nat} (hn : rows.Nodup) (h : j < rows.length) : atF rows t (j + 1) = if rows[j] = t then j else atF rows t j := by
  unfold atF
  by_cases e : rows[j] = t
  · have hi : rows.idxOf t = j := by
      have hl := List.idxOf_lt_length_of_mem (show t ∈ rows from e ▸ List.getElem_mem h)
      have h1 : rows[rows.idxOf t] = t := List.getElem_idxOf hl
      rcases Nat.lt_trichotomy (rows.idxOf t) j with h2 | h2 | h2
      · exact absurd (h1.trans e.symm) ((List.pairwise_iff_getElem.1 hn) _ _ hl h h2)
      · exact h2
      · exact absurd (e.trans h1.symm) ((List.pairwise_iff_getElem.1 hn) _ _ h hl h2)
    rw [if_pos e, hi, if_pos (Nat.lt_succ_self _)]
  · rw [if_neg e]
    have hi : rows.idxOf t ≠ j := fun hj => by
      have hl : rows.idxOf t < rows.length := by omega
      have h1 : rows[rows.idxOf t] = t := List.getElem_idxOf hl
      exact e (by rw [← h1]; congr 1; exact hj.symm)
    by_cases h2 : rows.idxOf t < j
    · rw [if_pos h2, if_pos (by omega)]
    · rw [if_neg h2, if_neg (by omega)]
theorem atF_in {rows : List α} {t : α} (h : t ∈ rows) : atF rows t rows.length < rows.length := by rw [atF_end]; exact idx_lt h
theorem atF_out {rows : List α} {t : α} (h : ¬ t ∈ rows) : atF rows t rows.length = rows.length := by rw [atF_end]; exact List.idxOf_eq_length h
theorem nextW_step {tw : Nat → α} {rows : List α} {acc : List Int} {fs : List Nat} {k : Nat} (h : k < fs.length) :
    nextW tw rows acc (fs.drop k) = if tw fs[k] ∈ rows then nextW tw rows (acc ++ [(atF rows (tw fs[k]) rows.length : Int)]) (fs.drop (k + 1))
      else if 1024 ≤ rows.length then .error 2 else nextW tw (rows ++ [tw fs[k]]) (acc ++ [(rows.length : Int)]) (fs.drop (k + 1)) := by
  rw [atF_end]; exact nextW_cons h
end
theorem eqPr (a b c d : Int) (w : World) : (Op.equalIn 10000 97 (.agg #[.int .i64 a, .int .i64 b]) (.agg #[.int .i64 c, .int .i64 d])).run Tryd.prog w = .ok (a == c && b == d) w := by
  have u3 := Tryd.underlying3
  have a3 := Tryd.isAgg3
  have z3 := Tryd.sizeOf3
  rw [show (10000 : Nat) = 9999 + 1 from rfl, Op.equalIn]
  simp only [Sem.run_bind, run_underlying Tryd.underlying97, Result.andThen_ok]
  simp only [Std.Legacy.Range.forIn_eq_forIn_range', Std.Legacy.Range.size, Nat.sub_zero, Nat.add_sub_cancel, Nat.div_one, List.range'_succ, List.range'_zero, List.forIn_cons, List.forIn_nil]
  go_simp
  by_cases h1 : a = c <;> by_cases h2 : b = d <;> simp [h1, h2]
theorem JBase.dfa {Wl W W' : World} {Bd g0 C R B : Nat} {rows : List Pr} {next : List (List Int)} {fin : List Bool} {rv nv ev : Value} {cl : List Int} (h : JBase Wl Bd g0 C W rows next fin rv nv ev) (hcl : ClsIn W C cl) (hl : cl.length = 256) (hB : B ≤ R) (hC : R < C) (hW : R < Wl.heap.size) (ht : Turn (fun g => g = R) W W') :
    DfaIn (fun g => B ≤ g ∧ g < W'.heap.size) W' (.slice (some ⟨C, 0, none⟩) 256 256) nv ev ⟨cl, next, fin⟩ := by
  have kk : ∀ {base e n : Nat} {u : Value} {xs : List Value}, R < base → W.ownsRow base e 1 u n xs → W'.ownsRow base e 1 u n xs := fun hb hu => own_blk hu fun g hg => ht.block g (own_lt hu hg).2 (by have := (own_lt hu hg).1; omega)
  obtain ⟨vs, n1, n2, n3⟩ := h.nxt.ex
  refine ⟨?_, ?_, ?_⟩
  · have h1 := kk hC hcl
    have e : OwnInts W' C (.slice (some ⟨C, 0, none⟩) 256 256) cl := by unfold OwnInts; rw [hl]; exact h1
    exact (ints_of_own e (own_max e)).frame (fun g hg => ⟨by have := hg.1; omega, hg.2⟩) (fun _ _ _ => rfl)
  · exact (rows_of_own (kk hW n1) n2 (fun i v l e1 e2 => kk hW (n3 i v l e1 e2).1) (n2 ▸ own_max n1) (fun l hl => by
      obtain ⟨i, hi, rfl⟩ := List.getElem_of_mem hl
      exact own_max (n3 i _ _ (List.getElem?_eq_getElem (by omega)) (List.getElem?_eq_getElem hi)).1)).frame (fun g hg => ⟨by have := hg.1; omega, hg.2⟩) (fun _ _ _ => rfl)
  · exact (bools_of_own (kk hW h.fins) (own_max h.fins)).frame (fun g hg => ⟨by have := hg.1; omega, hg.2⟩) (fun _ _ _ => rfl)
theorem sets_is {a : Dfa} (ha : dfaOk a = true) {ss : List Se} (hl : ss.length = (setsD a).length) (hs : SetsSo a.cls ss) : ss = setsD a := by
  obtain ⟨h1, _, h3⟩ := sets_some ha
  have hat := setsOf_law h1
  refine List.ext_getElem hl fun i h1 h2 => ?_
  obtain ⟨ok, has⟩ := hs i h1
  refine Se.same ok (h3 _ (List.getElem_mem h2)) fun x hx => ?_
  have h4 := hat.has i h2 x hx
  rw [List.getD_eq_getElem?_getD, List.getElem?_eq_getElem h2] at h4
  rw [has x hx]
  rw [show ((some (setsD a)[i]).getD Se.none) = (setsD a)[i] from rfl] at h4
  rw [h4]
  exact decide_eq_decide.2 ⟨fun h => ⟨hx, h⟩, fun h => h.2⟩
theorem sets_len {a : Dfa} (ha : dfaOk a = true) : partsOf a.cls = some (setsD a).length := by
  obtain ⟨h1, _, _⟩ := sets_some ha
  have := setsOf_parts a.cls
  rw [h1] at this
  exact this.symm
set_option maxRecDepth 100000 in
set_option maxHeartbeats 16000000 in
theorem joinR_main {F G : Nat → Prop} {w : World} {how : Nat} (hhow : how < 4) {a1 a2 a3 b1 b2 b3 : Value} {a b : Dfa} (ha : DfaIn F w a1 a2 a3 a) (hb : DfaIn G w b1 b2 b3 b) (hF : ∀ g, F g → g < w.heap.size) (hG : ∀ g, G g → g < w.heap.size) (hoka : dfaOk a = true) (hokb : dfaOk b = true) :
    Calls Tryd.prog 33 #[.agg #[a1, a2, a3], .agg #[b1, b2, b3], .int .i64 how] w (OfPost w (joinM (waysF how) a b)) := by
  obtain ⟨ks, p, fs, hp, hpm, hcm, hjoin⟩ := join_open (waysF how) hoka hokb
  obtain ⟨xr, hxr⟩ : ∃ xr, xr = joinM (waysF how) a b := ⟨_, rfl⟩
  rw [← hxr] at hjoin ⊢
  have HXR := hid hjoin
  obtain ⟨L, hL⟩ : ∃ L, L = setsD a ++ setsD b := ⟨_, rfl⟩
  rw [← hL] at hp hpm hcm HXR
  have HL := hid hL
  obtain ⟨W0, hW0⟩ : ∃ W0, W0 = ((w.alloc (.cells #[a1, a2, a3] 30)).alloc (.cells #[b1, b2, b3] 30)).alloc (.cells #[.slice none 0 0, .slice none 0 0, .slice none 0 0] 30) := ⟨_, rfl⟩
  have hA0 : W0.heap[w.heap.size]? = some (.cells #[a1, a2, a3] 30 (0, 0)) := by rw [hW0]; exact (alloc_old (by simp; omega)).trans ((alloc_old (by simp)).trans (heap_alloc_new _ _))
  have hC0 : W0.heap[w.heap.size + 1]? = some (.cells #[b1, b2, b3] 30 (0, 0)) := by rw [hW0]; exact (alloc_old (by simp)).trans (newB _ _ _)
  have hR0 : W0.heap[w.heap.size + 1 + 1]? = some (.cells #[.slice none 0 0, .slice none 0 0, .slice none 0 0] 30 (0, 0)) := by
    rw [hW0]
    have := newB (w.alloc (.cells #[a1, a2, a3] 30)) (.cells #[b1, b2, b3] 30) (.cells #[.slice none 0 0, .slice none 0 0, .slice none 0 0] 30)
    rw [World.size_alloc] at this
    exact this
  have hB0 : Below w.heap.size w W0 := by rw [hW0]; exact (((Below.refl _ _).alloc (Nat.le_refl _) _).alloc (by simp) _).alloc (by simp; omega) _
  have hz0 : W0.heap.size = w.heap.size + 3 := by rw [hW0]; simp
  have HBW := hid (fun (W : World) (h : Below W0.heap.size W0 W) => hB0.trans (h.mono hB0.size))
  have HAW := hid (fun (W : World) (h : Below W0.heap.size W0 W) => (show DfaIn F W a1 a2 a3 a from ha.frame (fun _ h => h) (fun g hg _ => (HBW.out W h).block g (hF g hg))))
  have HCW := hid (fun (W : World) (h : Below W0.heap.size W0 W) => (show DfaIn G W b1 b2 b3 b from hb.frame (fun _ h => h) (fun g hg _ => (HBW.out W h).block g (hG g hg))))
  have HF := hid hF
  have HG := hid hG
  have HXA := hid (fun (W : World) (h : Below W0.heap.size W0 W) => (h.block w.heap.size (lt_of_heap hA0)).trans hA0)
  have HXC := hid (fun (W : World) (h : Below W0.heap.size W0 W) => (h.block (w.heap.size + 1) (lt_of_heap hC0)).trans hC0)
  have HRW := hid (fun (W : World) (h : Below W0.heap.size W0 W) => (h.block (w.heap.size + 1 + 1) (lt_of_heap hR0)).trans hR0)
  have HTH := hid (fun (W W' : World) (h : Below W0.heap.size W0 W) (h' : Below W.heap.size W W') => h.trans (h'.mono h.size))
  have HP := hid hp
  have HOA := hid hoka
  have HOB := hid hokb
  obtain ⟨ada, cpa, rfl, hma, _⟩ := ha.cls
  obtain ⟨adb, cpb, rfl, hmb, _⟩ := ha.next
  obtain ⟨adc, cpc, rfl, hmc, _⟩ := ha.fin
  obtain ⟨ada', cpa', rfl, hma', _⟩ := hb.cls
  obtain ⟨adb', cpb', rfl, hmb', _⟩ := hb.next
  obtain ⟨adc', cpc', rfl, hmc', _⟩ := hb.fin
  unfold maxLen at hma hmb hmc hma' hmb' hmc'
  have HW0 := hid hW0
  have HZ0 := hid hz0
  have HSA := hid (sets_some hoka)
  have HSB := hid (sets_some hokb)
  have HLA := hid (sets_len hoka)
  have HLB := hid (sets_len hokb)
  have HLA0 := hid (show 0 < (setsD a).length by
    have h := (setsOf_law HSA.out.1).lt 0 (by decide)
    omega)
  have HLB0 := hid (show 0 < (setsD b).length by
    have h := (setsOf_law HSB.out.1).lt 0 (by decide)
    omega)
  clear ha hb hF hG hoka hokb hp hpm hcm hjoin hxr hA0 hC0 hR0 hB0 hz0 hW0 hL
  obtain ⟨q0, q1, q2⟩ := dcells (HXA.out W0 (Below.refl _ _))
  obtain ⟨r0, r1, r2⟩ := dcells (HXC.out W0 (Below.refl _ _))
  have hch := rightR_any (HAW.out W0 (Below.refl _ _)) (fun g hg => Nat.lt_of_lt_of_le (HF.out g hg) (HBW.out W0 (Below.refl _ _)).size)
  rw [HOA.out] at hch
  go_enter Tryd.func33, Tryd.ntmps33
  go_upto_region 1 with fail
  rw [← HW0.out]
  go_wp2_with fail
  refine hch.mono ?_
  clear hch q0 q1 q2 r0 r1 r2
  rintro e w1 ⟨rfl, hb1⟩
  have H1 := hid (HTH.out _ _ (Below.refl _ _) hb1)
  clear hb1
  obtain ⟨r0, r1, r2⟩ := dcells (HXC.out w1 H1.out)
  have hch := rightR_any (HCW.out w1 H1.out) (fun g hg => Nat.lt_of_lt_of_le (HG.out g hg) (HBW.out w1 H1.out).size)
  rw [HOB.out] at hch
  go_wp2_with fail
  refine hch.mono ?_
  clear hch r0 r1 r2
  rintro e w2 ⟨rfl, hb2⟩
  have H2 := hid (HTH.out _ _ H1.out hb2)
  clear hb2
  obtain ⟨q0, q1, q2⟩ := dcells (HXA.out w2 H2.out)
  have hst := setsR_full (HAW.out w2 H2.out).cls (fun g hg => Nat.lt_of_lt_of_le (HF.out g hg) (HBW.out w2 H2.out).size)
  go_wp2_with fail
  refine hst.mono ?_
  clear hst q0 q1 q2
  rintro e w3 ⟨hb3, hx⟩
  rw [HLA.out] at hx
  obtain ⟨ad3, cp3, ss3, rfl, _, hsl3, ho3, hso3⟩ := hx
  obtain rfl := sets_is HOA.out hsl3 hso3
  have HO3 := hid (own_mono ho3 H2.out.size)
  have H3 := hid (HTH.out _ _ H2.out hb3)
  clear hb3 ho3 hso3 hsl3
  obtain ⟨r0, r1, r2⟩ := dcells (HXC.out w3 H3.out)
  have hst := setsR_full (HCW.out w3 H3.out).cls (fun g hg => Nat.lt_of_lt_of_le (HG.out g hg) (HBW.out w3 H3.out).size)
  go_wp2_with fail
  refine hst.mono ?_
  clear hst r0 r1 r2
  rintro e w4 ⟨hb4, hx⟩
  rw [HLB.out] at hx
  obtain ⟨ad4, cp4, ss4, rfl, _, hsl4, ho4, hso4⟩ := hx
  obtain rfl := sets_is HOB.out hsl4 hso4
  have HO4 := hid (own_mono ho4 H3.out.size)
  have HO3 := hid (own_later HO3.out hb4)
  have H4 := hid (HTH.out _ _ H3.out hb4)
  clear hb4 ho4 hso4 hsl4
  obtain ⟨g3, rfl⟩ : ∃ g, ad3 = some ⟨g, 0, none⟩ := by
    obtain ⟨g, c, e, _⟩ := HO3.out.form HLA0.out
    cases e
    exact ⟨g, rfl⟩
  obtain ⟨g4, rfl⟩ : ∃ g, ad4 = some ⟨g, 0, none⟩ := by
    obtain ⟨g, c, e, _⟩ := HO4.out.form HLB0.out
    cases e
    exact ⟨g, rfl⟩
  obtain ⟨iS, hi, hz0, hz1, hz2⟩ := info_parts infoSet
  have HIS := hid hi
  have HZS := hid (And.intro hz0 (And.intro hz1 hz2))
  clear hi hz0 hz1 hz2
  have hla := HSA.out.2.1
  have hlb := HSB.out.2.1
  have hzw4 : W0.heap.size ≤ w4.heap.size := H4.out.size
  obtain ⟨la, hla0⟩ : ∃ l, l = setsD a := ⟨_, rfl⟩
  obtain ⟨lb, hlb0⟩ : ∃ l, l = setsD b := ⟨_, rfl⟩
  go_upto_region 6 with fail
  go_upto_region 7 with (at_builtin; refine wpList_append_own _ rfl _ _ 56 rfl W0.heap.size 65 iS _ 4 32 Tryd.underlying56 HIS.out HZS.out.1 HZS.out.2.1 HZS.out.2.2 rfl (by decide) _ _ _ rfl (World.ownsRow_nil _ _ _ _) ⟨g3, 0, none⟩ (setsD a).length cp3 (flat (setsD a)) rfl (flat_len _) (own_src HO3.out) (flat_one _) (by unfold maxLen; omega) (by omega) hzw4 ?_; intro v5 w5 hown5 hgrow5 _; have HO5 := hid hown5; have HG5 := hid hgrow5; clear hown5 hgrow5)
  have hb5 : Below w4.heap.size w4 w5 := (Below.refl _ _).grown HG5.out (Nat.le_refl _) (fun q hq => by cases hq)
  have HO4 := hid (own_later HO4.out hb5)
  have H5 := hid (HTH.out _ _ H4.out hb5)
  have hzw5 : W0.heap.size ≤ w5.heap.size := H5.out.size
  have ho5 := HO5.out
  rw [List.nil_append, Nat.zero_add] at ho5
  obtain ⟨ad5, cp5, rfl⟩ := own_shape ho5
  have HO5 := hid ho5
  clear hb5 ho5 HG5
  go_upto_region 8 with (at_builtin; refine wpList_append_own _ rfl _ _ 56 rfl W0.heap.size 65 iS _ 4 32 Tryd.underlying56 HIS.out HZS.out.1 HZS.out.2.1 HZS.out.2.2 rfl (by decide) _ _ _ rfl HO5.out ⟨g4, 0, none⟩ (setsD b).length cp4 (flat (setsD b)) rfl (flat_len _) (own_src HO4.out) (flat_one _) (by unfold maxLen; omega) (by omega) hzw5 ?_; intro v6 w6 hown6 hgrow6 _; have HO6 := hid hown6; have HG6 := hid hgrow6; clear hown6 hgrow6)
  have hb6 : Below W0.heap.size w5 w6 := (Below.refl _ _).grown HG6.out hzw5 (fun q hq => (HO5.out.lt q hq).1)
  have H6 := hid (H5.out.trans hb6)
  have ho6 := HO6.out
  rw [← flat_two, ← List.length_append, ← HL.out] at ho6
  obtain ⟨ad6, cp6, rfl⟩ := own_shape ho6
  have HO6 := hid ho6
  have hlen : L.length ≤ 512 := by rw [HL.out, List.length_append]; omega
  have HSOK := hid (show ∀ s ∈ L, s.ok from fun s hs => by
    rw [HL.out] at hs
    rcases List.mem_append.1 hs with h | h
    · exact HSA.out.2.2 s h
    · exact HSB.out.2.2 s h)
  clear hb6 ho6 HG6
  have hpm := partsR_any (sets_of_own HO6.out rfl (by unfold maxLen; omega)) (fun g hg => hg.2) (by omega) HSOK.out HP.out
  go_wp2_with fail
  refine hpm.mono ?_
  clear hpm
  rintro e w7 ⟨hb7, adp, cpp, rfl, hop⟩
  have H7 := hid (HTH.out _ _ H6.out hb7)
  have hfew := HP.out.few
  have hcl := class2_any (sets_of_own hop rfl (by unfold maxLen; omega)) (fun g hg => hg.2) HP.out
  clear hop hb7
  go_wp2_with fail
  refine hcl.mono ?_
  clear hcl
  rintro e w8 ⟨C, hC, rfl, hcls, hb8⟩
  have H8 := hid (HTH.out _ _ H7.out hb8)
  have HC8 := hid hcls
  have hC8 := (own_lt hcls rfl).2
  have hC0 : w.heap.size + 3 ≤ C := by have := H7.out.size; have := HZ0.out; omega
  clear hcls hb8 hC
  have hin := ints_cls HC8.out (clsOf_len _ _)
  rw [clsOf_len] at hin
  have hfi := firstsR_any (c := fun b => ks.idxOf (keyM L b)) hin (fun g hg => by rw [hg]; exact hC8) HP.out.law (fun m h => h.last HP.out)
  clear hin
  go_upto_region 10 with fail
  go_wp2_with fail
  refine hfi.mono ?_
  clear hfi
  rintro e w9 ⟨hb9, adf, cpf, rfl, hof⟩
  have H9 := hid (HTH.out _ _ H8.out hb9)
  have HC9 := hid (own_later HC8.out hb9)
  have HO9 := hid hof
  have hzf := hb9.size
  clear hb9 hof
  go_upto_region 12 with fail
  obtain ⟨Wa, hWa⟩ : ∃ Wa, Wa = w9.alloc (.cells #[.slice (some ⟨C, 0, none⟩) 256 256, .slice none 0 0, .slice none 0 0] 30) := ⟨_, rfl⟩
  have HBa := hid (show Below w9.heap.size w9 Wa by rw [hWa]; exact (Below.refl _ _).alloc (Nat.le_refl _) _)
  have HDa := hid (show Wa.heap[w9.heap.size]? = some (.cells #[.slice (some ⟨C, 0, none⟩) 256 256, .slice none 0 0, .slice none 0 0] 30 (0, 0)) by rw [hWa]; exact heap_alloc_new _ _)
  have HZa := hid (show Wa.heap.size = w9.heap.size + 1 by rw [hWa]; simp)
  have Ha := hid (HTH.out _ _ H9.out HBa.out)
  rw [← hWa]
  clear hWa
  go_upto_region 13 with fail
  obtain ⟨Wl, hWl⟩ : ∃ Wl, Wl = Wa.alloc (.cells #[.int .i64 0, .int .i64 0] 97) := ⟨_, rfl⟩
  have HBl := hid (show Below Wa.heap.size Wa Wl by rw [hWl]; exact (Below.refl _ _).alloc (Nat.le_refl _) _)
  have HGl := hid (show Wl.heap[Wa.heap.size]? = some (.cells (Pr.cs (0, 0)) 97 (0, 0)) by rw [hWl]; exact heap_alloc_new _ _)
  have HZl := hid (show Wl.heap.size = Wa.heap.size + 1 by rw [hWl]; simp)
  have Hl := hid (HTH.out _ _ Ha.out HBl.out)
  have HDl := hid ((HBl.out.block _ (lt_of_heap HDa.out)).trans HDa.out)
  have HCl := hid (own_later (own_later HC9.out HBa.out) HBl.out)
  have HOl := hid (own_later (own_later HO9.out HBa.out) HBl.out)
  have HFl := hid (fun (g : Nat) (hg : (Value.slice adf fs.length cpf).ownBlock = some g) => (show w8.heap.size ≤ g ∧ g < w9.heap.size from own_lt HO9.out hg))
  have hzz1 := Nat.le_of_eq HZa.out
  have hzz2 := Nat.le_of_eq HZa.out.symm
  have hzl1 := Nat.le_of_eq HZl.out
  have hzl2 := Nat.le_of_eq HZl.out.symm
  rw [← hWl]
  clear hWl HBl HBa HDa HZa HZl HO9 HC9 HC8 HO6 HO5 HO4 HO3
  generalize w8.heap.size = z8 at *
  generalize w9.heap.size = Bd at *
  generalize Wa.heap.size = g0 at *
  have hbd : Bd < Wl.heap.size := by omega
  have hgl : g0 < Wl.heap.size := by omega
  have n1 : Bd ≠ g0 := by omega
  have HXAT := hid (fun (W : World) (h : Turn (fun g => g = Bd ∨ g = g0) Wl W) => (show W.heap[w.heap.size]? = some (.cells #[.slice ada a.cls.length cpa, .slice adb a.next.length cpb, .slice adc a.fin.length cpc] 30 (0, 0)) from (h.block _ (by omega) (fun e => by omega)).trans (HXA.out Wl Hl.out)))
  have HXCT := hid (fun (W : World) (h : Turn (fun g => g = Bd ∨ g = g0) Wl W) => (show W.heap[w.heap.size + 1]? = some (.cells #[.slice ada' b.cls.length cpa', .slice adb' b.next.length cpb', .slice adc' b.fin.length cpc'] 30 (0, 0)) from (h.block _ (by omega) (fun e => by omega)).trans (HXC.out Wl Hl.out)))
  have HRT := hid (fun (W : World) (h : Turn (fun g => g = Bd ∨ g = g0) Wl W) => (show W.heap[w.heap.size + 1 + 1]? = some (.cells #[.slice none 0 0, .slice none 0 0, .slice none 0 0] 30 (0, 0)) from (h.block _ (by omega) (fun e => by omega)).trans (HRW.out Wl Hl.out)))
  have HAT := hid (fun (W : World) (h : Turn (fun g => g = Bd ∨ g = g0) Wl W) => (show DfaIn F W (.slice ada a.cls.length cpa) (.slice adb a.next.length cpb) (.slice adc a.fin.length cpc) a from (HAW.out Wl Hl.out).frame (fun _ h => h) (fun g hg hgl => h.block g hgl (fun e => by have := HF.out g hg; omega))))
  have HCT := hid (fun (W : World) (h : Turn (fun g => g = Bd ∨ g = g0) Wl W) => (show DfaIn G W (.slice ada' b.cls.length cpa') (.slice adb' b.next.length cpb') (.slice adc' b.fin.length cpc') b from (HCW.out Wl Hl.out).frame (fun _ h => h) (fun g hg hgl => h.block g hgl (fun e => by have := HG.out g hg; omega))))
  have HCLT := hid (fun (W : World) (h : Turn (fun g => g = Bd ∨ g = g0) Wl W) => (show ClsIn W C (clsOf L ks) from own_blk HCl.out (fun g hg => by cases hg; exact h.block C (by omega) (fun e => by omega))))
  have HOT := hid (fun (W : World) (h : Turn (fun g => g = Bd ∨ g = g0) Wl W) => own_blk HOl.out (fun g hg => h.block _ (by have := HFl.out g hg; omega) (fun e => by have := HFl.out g hg; omega)))
  have HBT := hid (fun (W : World) (h : Turn (fun g => g = Bd ∨ g = g0) Wl W) => (show Below w.heap.size w W from (HBW.out Wl Hl.out).trans (h.below (by omega) (fun g hg => by omega))))
  have hfl : fs.length ≤ 256 := HP.out.most
  have HPX := hid HP.out.lt
  have HN1 := hid (show 1 ≤ a.next.length ∧ 1 ≤ b.next.length ∧ a.next.length ≤ 1024 ∧ b.next.length ≤ 1024 ∧ a.fin.length = a.next.length ∧ b.fin.length = b.next.length by
    obtain ⟨_, _, _, h1, h2, h3, _⟩ := dfaOk_parts HOA.out
    obtain ⟨_, _, _, h4, h5, h6, _⟩ := dfaOk_parts HOB.out
    exact ⟨h1, h4, h2, h5, h3, h6⟩)
  have HSTART := hid (show WNum a b (waysF how) fs 0 [(0, 0)] [] [] from ⟨by simp, rfl, rfl, Nat.zero_le _, fun r hr => by
    rw [List.mem_singleton.1 hr]
    have := HN1.out
    exact ⟨⟨Int.le_refl _, by show (0 : Int) < _; omega⟩, Int.le_refl _, by show (0 : Int) < _; omega⟩, rfl⟩)
  have HBL := hid (JBase.start HDl.out HGl.out)
  clear HXA HXC HRW HAW HCW HBW HTH HP HDl HGl HCl HOl HFl HW0 HZ0 Hl Ha H1 H2 H3 H4 H5 H6 H7 H8 H9 HSA HSB HLA HLB HLA0 HLB0 HIS HZS HSOK
  obtain ⟨i0, hi, hz0, hz1, hz2⟩ := info_parts infoI
  have HII := hid hi
  have HZI := hid (And.intro hz0 (And.intro hz1 hz2))
  clear hi hz0 hz1 hz2
  obtain ⟨iR, hi, hz0, hz1, hz2⟩ := info_parts infoR
  have HIR := hid hi
  have HZR := hid (And.intro hz0 (And.intro hz1 hz2))
  clear hi hz0 hz1 hz2
  obtain ⟨iB, hi, hz0, hz1, hz2⟩ := info_parts infoL
  have HIB := hid hi
  have HZB := hid (And.intro hz0 (And.intro hz1 hz2))
  clear hi hz0 hz1 hz2
  obtain ⟨iP, hi, hz0, hz1, hz2⟩ := info_parts infoP
  have HIP := hid hi
  have HZP := hid (And.intro hz0 (And.intro hz1 hz2))
  clear hi hz0 hz1 hz2
  go_wp2_with fail
  go_loopw [19, 20] (fun rv i wr => ∃ (s : Nat) (rows : List Pr) (next : List (List Int)) (fin : List Bool) (nv ev : Value), i = .int .i64 s ∧ JBase Wl Bd g0 C wr rows next fin rv nv ev ∧ Hid (WNum a b (waysF how) fs s rows next fin) ∧ Hid (rows.Nodup)) (fun _ i _ => 1025 - (intOf i).toNat)
  case atStart => exact ⟨0, [(0, 0)], [], [], .slice none 0 0, .slice none 0 0, rfl, HBL.out, HSTART, hid (by simp)⟩
  case round =>
    obtain ⟨s, rows, next, fin, nv, ev, rfl, hbase, hnum, hnod⟩ := hrel
    obtain ⟨adr0, cpr0, rfl⟩ := own_shape hbase.rws
    have HB := hid hbase
    have hmost := hnum.out.most
    clear hbase
    by_cases hs : s < rows.length
    · obtain ⟨gr, hgr, x0, x1⟩ := prs_at HB.out.rws hs
      subst hgr
      obtain ⟨r, hr⟩ : ∃ r, r = rows[s] := ⟨_, rfl⟩
      have HR := hid hr
      have hro := hnum.out.ok _ (List.getElem_mem hs)
      rw [← hr] at x0 x1 hro
      obtain ⟨rx, ry⟩ := r
      obtain ⟨x, rfl⟩ := Int.eq_ofNat_of_zero_le hro.1.1
      obtain ⟨y, rfl⟩ := Int.eq_ofNat_of_zero_le hro.2.1
      dsimp only at x0 x1 hro
      have hxa : x < a.next.length := by have := hro.1.2; omega
      have hyb : y < b.next.length := by have := hro.2.2; omega
      clear hr hro
      go_upto_region 17 with fail
      obtain ⟨Wb, hWb⟩ : ∃ Wb, Wb = wr.alloc (.cells #[.int .i64 (x : Int), .int .i64 (y : Int)] 97) := ⟨_, rfl⟩
      have HBb := hid (show Below wr.heap.size wr Wb by rw [hWb]; exact (Below.refl _ _).alloc (Nat.le_refl _) _)
      have HXb := hid (show Wb.heap[wr.heap.size]? = some (.cells #[.int .i64 (x : Int), .int .i64 (y : Int)] 97 (0, 0)) by rw [hWb]; exact heap_alloc_new _ _)
      have HB1 := hid (HB.out.below HBb.out)
      have hwx : Wl.heap.size ≤ wr.heap.size := HB.out.turn.size
      have HGX := hid (fun (g : Nat) (hg : (Value.slice (some ⟨gr, 0, none⟩) rows.length cpr0).ownBlock = some g) => (own_lt HB.out.rws hg).2)
      rw [← hWb]
      clear hWb x0 x1 HBb
      obtain ⟨X, hX⟩ : ∃ X, X = wr.heap.size := ⟨_, rfl⟩
      rw [← hX] at HXb hwx HGX ⊢
      clear hX HB
      go_wp2_with fail
      go_loopw [19, 22, 23] (fun rv nx kv wr => ∃ (k : Nat) (rows' : List Pr) (acc : List Int), k ≤ fs.length ∧ kv = .int .i64 k ∧ JMid Wb g0 (.slice (some ⟨gr, 0, none⟩) rows.length cpr0) wr rows' acc rv nx ∧ Hid (acc.length = k) ∧ rows.length ≤ rows'.length ∧ rows'.length ≤ 1024 ∧ Hid (rows'.Nodup ∧ (∀ r ∈ rows', (0 ≤ r.1 ∧ r.1 < a.next.length) ∧ 0 ≤ r.2 ∧ r.2 < b.next.length) ∧ nextW (toP a b ((x : Int), (y : Int))) rows' acc (fs.drop k) = nextW (toP a b ((x : Int), (y : Int))) rows [] fs)) (fun _ _ kv _ => fs.length - (intOf kv).toNat)
      case atStart => exact ⟨0, rows, [], Nat.zero_le _, rfl, JMid.start HB1.out, hid rfl, Nat.le_refl _, hmost, hid ⟨hnod.out, hnum.out.ok, by rw [List.drop_zero]⟩⟩
      case round =>
        obtain ⟨k, rows', acc, hk, rfl, hmid, hacc, hrl, hrm, hnx⟩ := hrel
        have hal : acc.length ≤ 256 := by have := hacc.out; omega
        obtain ⟨adr, cpr, rfl⟩ := own_shape hmid.rws
        obtain ⟨adx, cpx, rfl⟩ := own_shape hmid.nx
        have HM := hid hmid
        have HTU := hid (HB1.out.mid hmid hbd n1).turn
        have HSZ := hid (show Wl.heap.size ≤ wr.heap.size from HTU.out.size)
        clear hmid
        by_cases hlt : k < fs.length
        -- <cut
        · have hof := HOT.out wr HTU.out
          obtain ⟨gf, cf, he⟩ := own_form hof (by omega)
          cases he
          have hcf := hof.cellAt k (by simpa using hlt)
          rw [List.getElem?_map, List.getElem?_eq_getElem hlt] at hcf
          have hxlt := HPX.out _ (List.getElem_mem hlt)
          have hnxc := hnx.out.2.2
          rw [nextW_step (α := Pr) hlt] at hnxc
          have hcf : wr.cell? ⟨gf, k, none⟩ = some (.int .i64 ((fs[k] : Nat) : Int)) := hcf
          have HNXC := hid hnxc
          generalize fs[k] = z at *
          obtain ⟨q0, q1, _⟩ := dcells (HXAT.out wr HTU.out)
          obtain ⟨u0, u1, _⟩ := dcells (HXCT.out wr HTU.out)
          have hxb := (HM.out.turn.block X (lt_of_heap HXb.out) (fun e => by have := HGX.out _ e; omega)).trans HXb.out
          have d0 := cell_blk (i := 0) hxb rfl
          have d1 := cell_blk (i := 1) hxb rfl
          obtain ⟨g1, o1, g2, o2, g3, o3, n3, e3, k1, r1, hq1, i1, i2, hq2, i3, i4, i5, i6, i7, i8, i9⟩ := step_at (HAT.out wr HTU.out).cls (HAT.out wr HTU.out).next HOA.out hxa hxlt
          subst hq1 hq2
          obtain ⟨m1, l1, m2, l2, m3, l3, j3, f3, k2, r2, hq3, t1, t2, hq4, t3, t4, t5, t6, t7, t8, t9⟩ := step_at (HCT.out wr HTU.out).cls (HCT.out wr HTU.out).next HOB.out hyb hxlt
          subst hq3 hq4
          unfold maxLen at i6 t6
          have HQ1 := hid i8
          have HQ2 := hid t8
          clear i8 t8 hnxc hof hxb
          go_upto_region 21 with fail
          have HKP := hid (fun (W : World) (h : ∀ g, g < wr.heap.size → W.heap[g]? = wr.heap[g]?) => (show (fun W : World => W.cell? ⟨w.heap.size, 0, none⟩ = some (.slice (some ⟨g1, o1, none⟩) a.cls.length cpa) ∧ W.cell? ⟨w.heap.size, 1, none⟩ = some (.slice (some ⟨g2, o2, none⟩) a.next.length cpb) ∧ W.cell? ⟨w.heap.size + 1, 0, none⟩ = some (.slice (some ⟨m1, l1, none⟩) b.cls.length cpa') ∧ W.cell? ⟨w.heap.size + 1, 1, none⟩ = some (.slice (some ⟨m2, l2, none⟩) b.next.length cpb') ∧ W.cell? ⟨X, 0, none⟩ = some (.int .i64 (x : Int)) ∧ W.cell? ⟨X, 1, none⟩ = some (.int .i64 (y : Int)) ∧ W.cell? ⟨gf, k, none⟩ = some (.int .i64 ((z : Nat) : Int)) ∧ W.cell? ⟨g1, o1 + z, none⟩ = some (.int .i64 k1) ∧ W.cell? ⟨g2, o2 + x, none⟩ = some (.slice (some ⟨g3, o3, none⟩) n3 e3) ∧ W.cell? ⟨g3, o3 + k1, none⟩ = some (.int .i64 r1) ∧ W.cell? ⟨m1, l1 + z, none⟩ = some (.int .i64 k2) ∧ W.cell? ⟨m2, l2 + y, none⟩ = some (.slice (some ⟨m3, l3, none⟩) j3 f3) ∧ W.cell? ⟨m3, l3 + k2, none⟩ = some (.int .i64 r2)) W from ⟨(cell_heap (h _ (cell_in q0))).trans q0, (cell_heap (h _ (cell_in q1))).trans q1, (cell_heap (h _ (cell_in u0))).trans u0, (cell_heap (h _ (cell_in u1))).trans u1, (cell_heap (h _ (cell_in d0))).trans d0, (cell_heap (h _ (cell_in d1))).trans d1, (cell_heap (h _ (cell_in hcf))).trans hcf, (cell_heap (h _ (cell_in i2))).trans i2, (cell_heap (h _ (cell_in i4))).trans i4, (cell_heap (h _ (cell_in i7))).trans i7, (cell_heap (h _ (cell_in t2))).trans t2, (cell_heap (h _ (cell_in t4))).trans t4, (cell_heap (h _ (cell_in t7))).trans t7⟩))
          have HS := hid (HKP.out wr.drew (fun _ _ => rfl))
          clear q0 q1 u0 u1 d0 d1 hcf i2 i4 i7 t2 t4 t7
          refine wp_region_held_drew (S := (fun W : World => W.cell? ⟨w.heap.size, 0, none⟩ = some (.slice (some ⟨g1, o1, none⟩) a.cls.length cpa) ∧ W.cell? ⟨w.heap.size, 1, none⟩ = some (.slice (some ⟨g2, o2, none⟩) a.next.length cpb) ∧ W.cell? ⟨w.heap.size + 1, 0, none⟩ = some (.slice (some ⟨m1, l1, none⟩) b.cls.length cpa') ∧ W.cell? ⟨w.heap.size + 1, 1, none⟩ = some (.slice (some ⟨m2, l2, none⟩) b.next.length cpb') ∧ W.cell? ⟨X, 0, none⟩ = some (.int .i64 (x : Int)) ∧ W.cell? ⟨X, 1, none⟩ = some (.int .i64 (y : Int)) ∧ W.cell? ⟨gf, k, none⟩ = some (.int .i64 ((z : Nat) : Int)) ∧ W.cell? ⟨g1, o1 + z, none⟩ = some (.int .i64 k1) ∧ W.cell? ⟨g2, o2 + x, none⟩ = some (.slice (some ⟨g3, o3, none⟩) n3 e3) ∧ W.cell? ⟨g3, o3 + k1, none⟩ = some (.int .i64 r1) ∧ W.cell? ⟨m1, l1 + z, none⟩ = some (.int .i64 k2) ∧ W.cell? ⟨m2, l2 + y, none⟩ = some (.slice (some ⟨m3, l3, none⟩) j3 f3) ∧ W.cell? ⟨m3, l3 + k2, none⟩ = some (.int .i64 r2))) (by kernel_rfl) HS.out (fun _ => ?_)
          refine wpAnyH_take (i := 0) (v := .pointer (some ⟨w.heap.size, 1, none⟩)) rfl (by kernel_rfl) (by kernel_rfl) (by kernel_rfl) (fun _ _ _ h => h) (Or.inl ⟨by rfl, fun w hS => by go_simp⟩) HS.out ?_
          simp only [Act.put, List.getElem_toArray, List.getElem_cons_zero, List.getElem_cons_succ, List.setIfInBounds_toArray, List.set_cons_zero, List.set_cons_succ]
          refine wpAnyH_take (i := 1) (v := .slice (some ⟨g2, o2, none⟩) a.next.length cpb) rfl (by kernel_rfl) (by kernel_rfl) (by kernel_rfl) (fun _ _ _ h => h) (Or.inl ⟨by rfl, fun w hS => by have k1 := hS.2.1; go_simp⟩) HS.out ?_
          simp only [Act.put, List.getElem_toArray, List.getElem_cons_zero, List.getElem_cons_succ, List.setIfInBounds_toArray, List.set_cons_zero, List.set_cons_succ]
          refine wpAnyH_take (i := 2) (v := .pointer (some ⟨X, 0, none⟩)) rfl (by kernel_rfl) (by kernel_rfl) (by kernel_rfl) (fun _ _ _ h => h) (Or.inl ⟨by rfl, fun w hS => by go_simp⟩) HS.out ?_
          simp only [Act.put, List.getElem_toArray, List.getElem_cons_zero, List.getElem_cons_succ, List.setIfInBounds_toArray, List.set_cons_zero, List.set_cons_succ]
          refine wpAnyH_take (i := 3) (v := .int .i64 (x : Int)) rfl (by kernel_rfl) (by kernel_rfl) (by kernel_rfl) (fun _ _ _ h => h) (Or.inl ⟨by rfl, fun w hS => by have k4 := hS.2.2.2.2.1; go_simp⟩) HS.out ?_
          simp only [Act.put, List.getElem_toArray, List.getElem_cons_zero, List.getElem_cons_succ, List.setIfInBounds_toArray, List.set_cons_zero, List.set_cons_succ]
          refine wpAnyH_take (i := 4) (v := .pointer (some ⟨g2, o2 + x, none⟩)) rfl (by kernel_rfl) (by kernel_rfl) (by kernel_rfl) (fun _ _ _ h => h) (Or.inl ⟨by rfl, fun w hS => by go_simp⟩) HS.out ?_
          simp only [Act.put, List.getElem_toArray, List.getElem_cons_zero, List.getElem_cons_succ, List.setIfInBounds_toArray, List.set_cons_zero, List.set_cons_succ]
          refine wpAnyH_take (i := 5) (v := .slice (some ⟨g3, o3, none⟩) n3 e3) rfl (by kernel_rfl) (by kernel_rfl) (by kernel_rfl) (fun _ _ _ h => h) (Or.inl ⟨by rfl, fun w hS => by have k8 := hS.2.2.2.2.2.2.2.2.1; go_simp⟩) HS.out ?_
          simp only [Act.put, List.getElem_toArray, List.getElem_cons_zero, List.getElem_cons_succ, List.setIfInBounds_toArray, List.set_cons_zero, List.set_cons_succ]
          refine wpAnyH_take (i := 6) (v := .pointer (some ⟨w.heap.size, 0, none⟩)) rfl (by kernel_rfl) (by kernel_rfl) (by kernel_rfl) (fun _ _ _ h => h) (Or.inl ⟨by rfl, fun w hS => by go_simp⟩) HS.out ?_
          simp only [Act.put, List.getElem_toArray, List.getElem_cons_zero, List.getElem_cons_succ, List.setIfInBounds_toArray, List.set_cons_zero, List.set_cons_succ]
          refine wpAnyH_take (i := 7) (v := .slice (some ⟨g1, o1, none⟩) a.cls.length cpa) rfl (by kernel_rfl) (by kernel_rfl) (by kernel_rfl) (fun _ _ _ h => h) (Or.inl ⟨by rfl, fun w hS => by have k0 := hS.1; go_simp⟩) HS.out ?_
          simp only [Act.put, List.getElem_toArray, List.getElem_cons_zero, List.getElem_cons_succ, List.setIfInBounds_toArray, List.set_cons_zero, List.set_cons_succ]
          refine wpAnyH_take (i := 8) (v := .slice (some ⟨gf, 0, none⟩) fs.length cpf) rfl (by kernel_rfl) (by kernel_rfl) (by kernel_rfl) (fun _ _ _ h => h) (Or.inl ⟨by rfl, fun w hS => by go_simp⟩) HS.out ?_
          simp only [Act.put, List.getElem_toArray, List.getElem_cons_zero, List.getElem_cons_succ, List.setIfInBounds_toArray, List.set_cons_zero, List.set_cons_succ]
          refine wpAnyH_take (i := 9) (v := .int .i64 k) rfl (by kernel_rfl) (by kernel_rfl) (by kernel_rfl) (fun _ _ _ h => h) (Or.inl ⟨by rfl, fun w hS => by go_simp⟩) HS.out ?_
          simp only [Act.put, List.getElem_toArray, List.getElem_cons_zero, List.getElem_cons_succ, List.setIfInBounds_toArray, List.set_cons_zero, List.set_cons_succ]
          refine wpAnyH_take (i := 10) (v := .pointer (some ⟨gf, k, none⟩)) rfl (by kernel_rfl) (by kernel_rfl) (by kernel_rfl) (fun _ _ _ h => h) (Or.inl ⟨by rfl, fun w hS => by go_simp⟩) HS.out ?_
          simp only [Act.put, List.getElem_toArray, List.getElem_cons_zero, List.getElem_cons_succ, List.setIfInBounds_toArray, List.set_cons_zero, List.set_cons_succ]
          refine wpAnyH_take (i := 11) (v := .int .i64 ((z : Nat) : Int)) rfl (by kernel_rfl) (by kernel_rfl) (by kernel_rfl) (fun _ _ _ h => h) (Or.inl ⟨by rfl, fun w hS => by have k6 := hS.2.2.2.2.2.2.1; go_simp⟩) HS.out ?_
          simp only [Act.put, List.getElem_toArray, List.getElem_cons_zero, List.getElem_cons_succ, List.setIfInBounds_toArray, List.set_cons_zero, List.set_cons_succ]
          refine wpAnyH_take (i := 12) (v := .pointer (some ⟨g1, o1 + z, none⟩)) rfl (by kernel_rfl) (by kernel_rfl) (by kernel_rfl) (fun _ _ _ h => h) (Or.inl ⟨by rfl, fun w hS => by go_simp⟩) HS.out ?_
          simp only [Act.put, List.getElem_toArray, List.getElem_cons_zero, List.getElem_cons_succ, List.setIfInBounds_toArray, List.set_cons_zero, List.set_cons_succ]
          refine wpAnyH_take (i := 13) (v := .int .i64 k1) rfl (by kernel_rfl) (by kernel_rfl) (by kernel_rfl) (fun _ _ _ h => h) (Or.inl ⟨by rfl, fun w hS => by have k7 := hS.2.2.2.2.2.2.2.1; go_simp⟩) HS.out ?_
          simp only [Act.put, List.getElem_toArray, List.getElem_cons_zero, List.getElem_cons_succ, List.setIfInBounds_toArray, List.set_cons_zero, List.set_cons_succ]
          refine wpAnyH_take (i := 14) (v := .pointer (some ⟨g3, o3 + k1, none⟩)) rfl (by kernel_rfl) (by kernel_rfl) (by kernel_rfl) (fun _ _ _ h => h) (Or.inl ⟨by rfl, fun w hS => by go_simp⟩) HS.out ?_
          simp only [Act.put, List.getElem_toArray, List.getElem_cons_zero, List.getElem_cons_succ, List.setIfInBounds_toArray, List.set_cons_zero, List.set_cons_succ]
          refine wpAnyH_take (i := 15) (v := .int .i64 r1) rfl (by kernel_rfl) (by kernel_rfl) (by kernel_rfl) (fun _ _ _ h => h) (Or.inl ⟨by rfl, fun w hS => by have k9 := hS.2.2.2.2.2.2.2.2.2.1; go_simp⟩) HS.out ?_
          simp only [Act.put, List.getElem_toArray, List.getElem_cons_zero, List.getElem_cons_succ, List.setIfInBounds_toArray, List.set_cons_zero, List.set_cons_succ]
          refine wpAnyH_take (i := 16) (v := .pointer (some ⟨w.heap.size + 1, 1, none⟩)) rfl (by kernel_rfl) (by kernel_rfl) (by kernel_rfl) (fun _ _ _ h => h) (Or.inl ⟨by rfl, fun w hS => by go_simp⟩) HS.out ?_
          simp only [Act.put, List.getElem_toArray, List.getElem_cons_zero, List.getElem_cons_succ, List.setIfInBounds_toArray, List.set_cons_zero, List.set_cons_succ]
          refine wpAnyH_take (i := 17) (v := .slice (some ⟨m2, l2, none⟩) b.next.length cpb') rfl (by kernel_rfl) (by kernel_rfl) (by kernel_rfl) (fun _ _ _ h => h) (Or.inl ⟨by rfl, fun w hS => by have k3 := hS.2.2.2.1; go_simp⟩) HS.out ?_
          simp only [Act.put, List.getElem_toArray, List.getElem_cons_zero, List.getElem_cons_succ, List.setIfInBounds_toArray, List.set_cons_zero, List.set_cons_succ]
          refine wpAnyH_take (i := 18) (v := .pointer (some ⟨X, 1, none⟩)) rfl (by kernel_rfl) (by kernel_rfl) (by kernel_rfl) (fun _ _ _ h => h) (Or.inl ⟨by rfl, fun w hS => by go_simp⟩) HS.out ?_
          simp only [Act.put, List.getElem_toArray, List.getElem_cons_zero, List.getElem_cons_succ, List.setIfInBounds_toArray, List.set_cons_zero, List.set_cons_succ]
          refine wpAnyH_take (i := 19) (v := .int .i64 (y : Int)) rfl (by kernel_rfl) (by kernel_rfl) (by kernel_rfl) (fun _ _ _ h => h) (Or.inl ⟨by rfl, fun w hS => by have k5 := hS.2.2.2.2.2.1; go_simp⟩) HS.out ?_
          simp only [Act.put, List.getElem_toArray, List.getElem_cons_zero, List.getElem_cons_succ, List.setIfInBounds_toArray, List.set_cons_zero, List.set_cons_succ]
          refine wpAnyH_take (i := 20) (v := .pointer (some ⟨m2, l2 + y, none⟩)) rfl (by kernel_rfl) (by kernel_rfl) (by kernel_rfl) (fun _ _ _ h => h) (Or.inl ⟨by rfl, fun w hS => by go_simp⟩) HS.out ?_
          simp only [Act.put, List.getElem_toArray, List.getElem_cons_zero, List.getElem_cons_succ, List.setIfInBounds_toArray, List.set_cons_zero, List.set_cons_succ]
          refine wpAnyH_take (i := 21) (v := .slice (some ⟨m3, l3, none⟩) j3 f3) rfl (by kernel_rfl) (by kernel_rfl) (by kernel_rfl) (fun _ _ _ h => h) (Or.inl ⟨by rfl, fun w hS => by have k11 := hS.2.2.2.2.2.2.2.2.2.2.2.1; go_simp⟩) HS.out ?_
          simp only [Act.put, List.getElem_toArray, List.getElem_cons_zero, List.getElem_cons_succ, List.setIfInBounds_toArray, List.set_cons_zero, List.set_cons_succ]
          refine wpAnyH_take (i := 22) (v := .pointer (some ⟨w.heap.size + 1, 0, none⟩)) rfl (by kernel_rfl) (by kernel_rfl) (by kernel_rfl) (fun _ _ _ h => h) (Or.inl ⟨by rfl, fun w hS => by go_simp⟩) HS.out ?_
          simp only [Act.put, List.getElem_toArray, List.getElem_cons_zero, List.getElem_cons_succ, List.setIfInBounds_toArray, List.set_cons_zero, List.set_cons_succ]
          refine wpAnyH_take (i := 23) (v := .slice (some ⟨m1, l1, none⟩) b.cls.length cpa') rfl (by kernel_rfl) (by kernel_rfl) (by kernel_rfl) (fun _ _ _ h => h) (Or.inl ⟨by rfl, fun w hS => by have k2 := hS.2.2.1; go_simp⟩) HS.out ?_
          simp only [Act.put, List.getElem_toArray, List.getElem_cons_zero, List.getElem_cons_succ, List.setIfInBounds_toArray, List.set_cons_zero, List.set_cons_succ]
          refine wpAnyH_take (i := 24) (v := .slice (some ⟨gf, 0, none⟩) fs.length cpf) rfl (by kernel_rfl) (by kernel_rfl) (by kernel_rfl) (fun _ _ _ h => h) (Or.inl ⟨by rfl, fun w hS => by go_simp⟩) HS.out ?_
          simp only [Act.put, List.getElem_toArray, List.getElem_cons_zero, List.getElem_cons_succ, List.setIfInBounds_toArray, List.set_cons_zero, List.set_cons_succ]
          refine wpAnyH_take (i := 25) (v := .int .i64 k) rfl (by kernel_rfl) (by kernel_rfl) (by kernel_rfl) (fun _ _ _ h => h) (Or.inl ⟨by rfl, fun w hS => by go_simp⟩) HS.out ?_
          simp only [Act.put, List.getElem_toArray, List.getElem_cons_zero, List.getElem_cons_succ, List.setIfInBounds_toArray, List.set_cons_zero, List.set_cons_succ]
          refine wpAnyH_take (i := 26) (v := .pointer (some ⟨gf, k, none⟩)) rfl (by kernel_rfl) (by kernel_rfl) (by kernel_rfl) (fun _ _ _ h => h) (Or.inl ⟨by rfl, fun w hS => by go_simp⟩) HS.out ?_
          simp only [Act.put, List.getElem_toArray, List.getElem_cons_zero, List.getElem_cons_succ, List.setIfInBounds_toArray, List.set_cons_zero, List.set_cons_succ]
          refine wpAnyH_take (i := 27) (v := .int .i64 ((z : Nat) : Int)) rfl (by kernel_rfl) (by kernel_rfl) (by kernel_rfl) (fun _ _ _ h => h) (Or.inl ⟨by rfl, fun w hS => by have k6 := hS.2.2.2.2.2.2.1; go_simp⟩) HS.out ?_
          simp only [Act.put, List.getElem_toArray, List.getElem_cons_zero, List.getElem_cons_succ, List.setIfInBounds_toArray, List.set_cons_zero, List.set_cons_succ]
          refine wpAnyH_take (i := 28) (v := .pointer (some ⟨m1, l1 + z, none⟩)) rfl (by kernel_rfl) (by kernel_rfl) (by kernel_rfl) (fun _ _ _ h => h) (Or.inl ⟨by rfl, fun w hS => by go_simp⟩) HS.out ?_
          simp only [Act.put, List.getElem_toArray, List.getElem_cons_zero, List.getElem_cons_succ, List.setIfInBounds_toArray, List.set_cons_zero, List.set_cons_succ]
          refine wpAnyH_take (i := 29) (v := .int .i64 k2) rfl (by kernel_rfl) (by kernel_rfl) (by kernel_rfl) (fun _ _ _ h => h) (Or.inl ⟨by rfl, fun w hS => by have k10 := hS.2.2.2.2.2.2.2.2.2.2.1; go_simp⟩) HS.out ?_
          simp only [Act.put, List.getElem_toArray, List.getElem_cons_zero, List.getElem_cons_succ, List.setIfInBounds_toArray, List.set_cons_zero, List.set_cons_succ]
          refine wpAnyH_take (i := 30) (v := .pointer (some ⟨m3, l3 + k2, none⟩)) rfl (by kernel_rfl) (by kernel_rfl) (by kernel_rfl) (fun _ _ _ h => h) (Or.inl ⟨by rfl, fun w hS => by go_simp⟩) HS.out ?_
          simp only [Act.put, List.getElem_toArray, List.getElem_cons_zero, List.getElem_cons_succ, List.setIfInBounds_toArray, List.set_cons_zero, List.set_cons_succ]
          refine wpAnyH_take (i := 31) (v := .int .i64 r2) rfl (by kernel_rfl) (by kernel_rfl) (by kernel_rfl) (fun _ _ _ h => h) (Or.inl ⟨by rfl, fun w hS => by have k12 := hS.2.2.2.2.2.2.2.2.2.2.2.2; go_simp⟩) HS.out ?_
          simp only [Act.put, List.getElem_toArray, List.getElem_cons_zero, List.getElem_cons_succ, List.setIfInBounds_toArray, List.set_cons_zero, List.set_cons_succ]
          refine wpAnyH_take (i := 32) (v := .agg #[.int .i64 r1, .int .i64 r2]) rfl (by kernel_rfl) (by kernel_rfl) (by kernel_rfl) (fun _ _ _ h => h) (Or.inl ⟨by rfl, fun w hS => by go_simp⟩) HS.out ?_
          simp only [Act.put, List.getElem_toArray, List.getElem_cons_zero, List.getElem_cons_succ, List.setIfInBounds_toArray, List.set_cons_zero, List.set_cons_succ]
          refine wpAnyH_ready (rs := [33]) (by kernel_rfl) (by simp) (AllReadyH.cons rfl (fun K hK => ?_) AllReadyH.nil)
          go_simp
          refine hK.out _ _ (HKP.out _ (fun g hg => alloc_old hg)) (fun _ => ?_)
          clear hK K
          have hnb : ((wr.alloc (.cells #[.int .i64 0, .int .i64 0] 97)).drew).heap[wr.heap.size]? = some (.cells #[.int .i64 0, .int .i64 0] 97 (0, 0)) := heap_alloc_new _ _
          have HB3 := hid (show Below wr.heap.size wr ((wr.alloc (.cells #[.int .i64 0, .int .i64 0] 97)).drew) from ((Below.refl _ _).alloc (Nat.le_refl _) _).drew)
          have HS3 := hid (HKP.out ((wr.alloc (.cells #[.int .i64 0, .int .i64 0] 97)).drew) (fun g hg => alloc_old hg))
          generalize (wr.alloc (.cells #[.int .i64 0, .int .i64 0] 97)).drew = w3 at *
          have d0 := cell_blk (i := 0) hnb rfl
          have d1 := cell_blk (i := 1) hnb rfl
          have d2 := free_box (i := 0) hnb
          have d3 := free_box (i := 1) hnb
          refine wpAnyH_ready (rs := [34]) (by kernel_rfl) (by simp) (AllReadyH.cons rfl (fun K hK => ?_) AllReadyH.nil)
          go_simp
          have hnb4 := two_set (.int .i64 (r1 : Int)) (.int .i64 (r2 : Int)) hnb
          have HB24 := hid (show Below wr.heap.size wr ((w3.setCell ⟨wr.heap.size, 0, none⟩ (.int .i64 (r1 : Int))).setCell ⟨wr.heap.size, 1, none⟩ (.int .i64 (r2 : Int))) from (HB3.out.setCell (Nat.le_refl _) _).setCell (Nat.le_refl _) _)
          refine hK.out _ _ (HKP.out _ (fun g hg => HB24.out.block g hg)) (fun _ => ?_)
          clear hK K d0 d1 d2 d3 hnb
          generalize ((w3.setCell ⟨wr.heap.size, 0, none⟩ (.int .i64 (r1 : Int))).setCell ⟨wr.heap.size, 1, none⟩ (.int .i64 (r2 : Int))) = w4 at *
          refine wpAnyH_done (by kernel_rfl) ?_ _
          have HM4 := hid (HM.out.below HB24.out)
          have HTO := hid (show toP a b ((x : Int), (y : Int)) z = ((r1 : Int), (r2 : Int)) by unfold toP; rw [HQ1.out, HQ2.out])
          have hnxc := HNXC.out
          rw [HTO.out] at hnxc
          have HNXD := hid hnxc
          have HTU4 := hid (HTU.out.trans (Turn.of_below HB24.out))
          have HV4 := hid (lt_of_heap hnb4)
          have HNB4 := hid hnb4
          have HBIG := hid (fun (hbig : 1024 ≤ rows'.length) (hmem : ¬ ((r1 : Int), (r2 : Int)) ∈ rows') => (show xr = .error 2 by
            have h1 := hnum.out.bad hs (e := 2) (by rw [← HR.out]; exact HNXC.out.symm.trans (by rw [HTO.out, if_neg hmem, if_pos hbig]))
            rw [HXR.out, h1]))
          have HI9 := hid (And.intro i9 t9)
          clear hnxc hnb4 HNXC HM HTU HSZ HS HS3 HKP HB3 HB24 i1 i3 i5 i9 t1 t3 t5 t9
          generalize wr.heap.size = V at *
          generalize hxt : ((r1 : Int), (r2 : Int)) = t at *
          go_wp2_with fail
          go_loopw [25, 26] (fun av jv wr => ∃ j : Nat, j ≤ rows'.length ∧ jv = .int .i64 j ∧ av = .int .i64 (atF rows' t j) ∧ Below w4.heap.size w4 wr) (fun _ jv _ => rows'.length - (intOf jv).toNat)
          case atStart => exact ⟨0, Nat.zero_le _, rfl, by rw [atF_zero], Below.refl _ _⟩
          case round =>
            obtain ⟨j, hj, rfl, rfl, hbj⟩ := hrel
            have HBJ := hid hbj
            have HMJ := hid (HM4.out.below hbj)
            have hxv := (hbj.block V HV4.out).trans HNB4.out
            clear hbj
            have d0 := cell_blk (i := 0) hxv rfl
            have d1 := cell_blk (i := 1) hxv rfl
            by_cases hjl : j < rows'.length
            -- (inner
            · have hstep := atF_step (t := t) hnx.out.1 hjl
              obtain ⟨gq, hgq, x0, x1⟩ := prs_at HMJ.out.rws hjl
              subst hgq
              rcases hc : rows'[j] with ⟨c1, c2⟩
              rw [hc] at hstep x0 x1
              dsimp only at x0 x1
              have HSTEP := hid hstep
              clear hstep hc hxv
              generalize atF rows' t j = q at *
              have heq := eqPr c1 c2 (r1 : Int) (r2 : Int)
              by_cases he : c1 = (r1 : Int) ∧ c2 = (r2 : Int)
              · have hst := HSTEP.out
                rw [if_pos (by rw [he.1, he.2]; exact hxt)] at hst
                have HST := hid hst
                have heq' := fun w => (heq w).trans (by rw [show ((c1 == (r1 : Int)) && (c2 == (r2 : Int))) = true by simp [he.1, he.2]])
                clear hst HSTEP heq he
                go_wp2_with fail
                go_quiet (fail)
                go_wp2_with fail
                go_roundw
                case rel => exact ⟨j + 1, by omega, by go_num, by rw [HST.out], below_drewN HBJ.out _⟩
                case measure => simp [intOf]; omega
              · have hst := HSTEP.out
                rw [if_neg (fun h => he (by rw [← hxt] at h; cases h; exact ⟨rfl, rfl⟩))] at hst
                have HST := hid hst
                have heq' := fun w => (heq w).trans (by rw [show ((c1 == (r1 : Int)) && (c2 == (r2 : Int))) = false by
                  by_cases h1 : c1 = (r1 : Int)
                  · have h2 : ¬ c2 = (r2 : Int) := fun h => he ⟨h1, h⟩
                    simp [h2]
                  · simp [h1]])
                clear hst HSTEP heq he
                go_wp2_with fail
                go_quiet (fail)
                go_wp2_with fail
                go_roundw
                case rel => exact ⟨j + 1, by omega, by go_num, by rw [HST.out], below_drewN HBJ.out _⟩
                case measure => simp [intOf]; omega
            -- inner)
            · obtain rfl : j = rows'.length := by omega
              have HTUJ := hid (HTU4.out.trans (Turn.of_below HBJ.out))
              have hszb : Wb.heap.size ≤ wr.heap.size := HMJ.out.turn.size
              have hszg : g0 ≤ wr.heap.size := by have := HTUJ.out.size; omega
              clear HM4 HTU4 HBJ HNB4 hxv
              by_cases hmem : t ∈ rows'
              · have hidx := atF_in hmem
                have hne : (((atF rows' t rows'.length : Nat) : Int) == (rows'.length : Int)) = false := by simp; omega
                have hnx2 := HNXD.out
                rw [if_pos hmem] at hnx2
                have HNX2 := hid hnx2
                generalize atF rows' t rows'.length = ix at *
                clear hmem hnx2
                go_upto_region 32 with fail
                go_wp2_with (at_builtin; refine wpList_append_own_at _ rfl _ _ 22 rfl Wb.heap.size 3 i0 (.int .i64 0) 1 8 Tryd.underlying22 HII.out HZI.out.1 HZI.out.2.1 HZI.out.2.2 rfl (by decide) (.slice adx acc.length cpx) acc.length (acc.map iV) (by rfl) (HMJ.out.nx.alloc _) ⟨wr.heap.size, 0, none⟩ 1 1 [iV (ix : Int)] (by rfl) rfl (one_at (heap_alloc_new _ _)) (one_cell_one rfl) (by unfold maxLen; omega) (by omega) (by simp; omega) ?_; intro nx' w5 ho5 hg5 _ hat5; have HO5 := hid ho5; have HG5 := hid hg5; clear ho5 hg5 hat5)
                refine And.intro ?_ ?_
                · exact ⟨k + 1, rows', acc ++ [(ix : Int)], by omega, by go_num, HMJ.out.push HO5.out HG5.out, hid (by rw [List.length_append, hacc.out]; rfl), hrl, hrm, hid ⟨hnx.out.1, hnx.out.2.1, HNX2.out⟩⟩
                · simp [intOf]; omega
              · have hidx : atF rows' t rows'.length = rows'.length := atF_out hmem
                rw [hidx]
                have hnx2 := HNXD.out
                rw [if_neg hmem] at hnx2
                have HMEM := hid hmem
                clear hmem hidx
                by_cases hbig : 1024 ≤ rows'.length
                · have HXE := hid (HBIG.out hbig HMEM.out)
                  have hbig' : (1024 : Int) ≤ (rows'.length : Int) := by omega
                  have HRES := hid (HRT.out wr HTUJ.out)
                  have HBW := hid (HBT.out wr HTUJ.out)
                  clear hnx2 hbig
                  go_wp2_with (refine wpList_store_same rfl 30 (.tmp 6) (.tmp 140) rfl 3 infoDfa (w.heap.size + 1 + 1) 30 _ HRES.out rfl (by rfl) (by rfl) rfl ?_)
                  refine bodyPost_ret (results_cell_one (ty := 30) rfl _ _ (w.heap.size + 1 + 1) 30 _ (0, 0) _ rfl HRES.out Tryd.underlying30 rfl (by kernel_rfl)) rfl ?_
                  rw [HXE.out]
                  exact ⟨rfl, HBW.out⟩
                · rw [if_neg hbig] at hnx2
                  have HNX2 := hid hnx2
                  have hbig' : ¬ (1024 : Int) ≤ (rows'.length : Int) := by omega
                  clear hnx2
                  go_upto_region 32 with (at_builtin; refine wpList_append_own_at _ rfl _ _ 98 rfl g0 97 iP (.agg #[.int .i64 0, .int .i64 0]) 2 16 Tryd.underlying98 HIP.out HZP.out.1 HZP.out.2.1 HZP.out.2.2 rfl (by decide) (.slice adr rows'.length cpr) rows'.length (flatP rows') (by rfl) (HMJ.out.rws.alloc _) ⟨wr.heap.size, 0, none⟩ 1 1 [.int .i64 (r1 : Int), .int .i64 (r2 : Int)] (by rfl) rfl (own_two (heap_alloc_new _ _)) (two_one _ _) (by unfold maxLen; omega) (by omega) (by simp; omega) ?_; intro rv' w6 ho6 hg6 _ hat6; obtain ⟨adq, cpq, rfl⟩ := own_shape ho6; have HO6 := hid ho6; have HG6 := hid hg6; have HAT6 := hid hat6; clear ho6 hg6 hat6)
                  have HM6 := hid (HMJ.out.addRow (r := ((r1 : Int), (r2 : Int))) HO6.out HG6.out HAT6.out)
                  have hszb6 : Wb.heap.size ≤ w6.heap.size := HM6.out.turn.size
                  clear d0 d1
                  go_wp2_with (at_builtin; refine wpList_append_own_at _ rfl _ _ 22 rfl Wb.heap.size 3 i0 (.int .i64 0) 1 8 Tryd.underlying22 HII.out HZI.out.1 HZI.out.2.1 HZI.out.2.2 rfl (by decide) (.slice adx acc.length cpx) acc.length (acc.map iV) (by rfl) (HM6.out.nx.alloc _) ⟨w6.heap.size, 0, none⟩ 1 1 [iV (rows'.length : Int)] (by rfl) rfl (one_at (heap_alloc_new _ _)) (one_cell_one rfl) (by unfold maxLen; omega) (by omega) (by simp; omega) ?_; intro nx' w7 ho7 hg7 _ hat7; have HO7 := hid ho7; have HG7 := hid hg7; clear ho7 hg7 hat7)
                  refine And.intro ?_ ?_
                  · have HPU := HM6.out.push HO7.out HG7.out
                    rw [hxt] at HPU
                    exact ⟨k + 1, rows' ++ [t], acc ++ [(rows'.length : Int)], by omega, by go_num, HPU, hid (by rw [List.length_append, hacc.out]; rfl), by simp; omega, by simp; omega, hid ⟨List.nodup_append.2 ⟨hnx.out.1, by simp, fun u hu v hv => by rw [List.mem_singleton.1 hv]; exact fun e => HMEM.out (e ▸ hu)⟩, fun r hr => by
                      rcases List.mem_append.1 hr with hr | hr
                      · exact hnx.out.2.1 r hr
                      · rw [List.mem_singleton.1 hr, ← hxt]
                        exact ⟨⟨by show (0 : Int) ≤ (r1 : Int); omega, by show (r1 : Int) < _; have := HI9.out.1; omega⟩, by show (0 : Int) ≤ (r2 : Int); omega, by show (r2 : Int) < _; have := HI9.out.2; omega⟩, HNX2.out⟩⟩
                  · simp [intOf]; omega
        -- cut>
        -- <part2
        · obtain rfl : k = fs.length := by omega
          have hnx3 := hnx.out.2.2
          rw [List.drop_length, nextW] at hnx3
          have HGOOD := hid (hnum.out.good hs (by rw [← HR.out]; exact hnx3.symm) hrm hrl hnx.out.2.1)
          have HB3 := hid (HB1.out.mid HM.out hbd n1)
          have HNX := hid (show OwnInts wr Wl.heap.size (.slice adx acc.length cpx) acc from own_mono HM.out.nx (HB1.out.turn.size))
          obtain ⟨vs, hvs, hvl, hvr⟩ := HB3.out.nxt.ex
          obtain ⟨adn, cpn, rfl⟩ := own_shape hvs
          obtain ⟨ade, cpe, rfl⟩ := own_shape HB3.out.fins
          have HVS := hid hvs
          have HVL := hid hvl
          have HVR := hid hvr
          have hvm : vs.length ≤ 1024 := by have h1 := hnum.out.len; omega
          have hfm : fin.length ≤ 1024 := by have h1 := hnum.out.flen; omega
          have c1 := cell_blk (i := 1) HB3.out.dbox rfl
          have hxb := (HM.out.turn.block X (lt_of_heap HXb.out) (fun e => by have := HGX.out _ e; omega)).trans HXb.out
          have hXl : X < wr.heap.size := lt_of_heap hxb
          clear hnx3 hvs hvl hvr
          go_upto_region 34 with (at_builtin; refine wpList_append_own_at _ rfl _ _ 27 rfl Wl.heap.size 22 iR (.slice none 0 0) 1 24 Tryd.underlying27 HIR.out HZR.out.1 HZR.out.2.1 HZR.out.2.2 rfl (by decide) (.slice adn vs.length cpn) vs.length vs (by rfl) (HVS.out.alloc _) ⟨wr.heap.size, 0, none⟩ 1 1 [.slice adx acc.length cpx] (by rfl) rfl (cell_one_new _ _ _) (one_cell_one rfl) (by unfold maxLen; omega) (by omega) (by have := HSZ.out; simp; omega) ?_; intro nv' w5 ho5 hg5 _ hat5; obtain ⟨adn', cpn', rfl⟩ := own_shape ho5; have HO5 := hid ho5; have HG5 := hid hg5; have hd5 := HB3.out.dbox2 hbd HVS.out hg5; have x1 := cell_blk (i := 1) hd5 rfl; have x2 := free_box (i := 1) hd5; clear ho5 hg5 hat5 hd5)
          have HB5 := hid (HB3.out.addNext hbd n1 HVS.out HVL.out HVR.out (l := acc) HNX.out HO5.out HG5.out)
          have HX5 := hid (show (w5.setCell ⟨Bd, 1, none⟩ (.slice adn' (vs.length + 1) cpn')).heap[X]? = some (.cells #[.int .i64 (x : Int), .int .i64 (y : Int)] 97 (0, 0)) from
            ((((Turn.refl _ wr).alloc _).grown (S := fun g => g = Bd ∨ (Value.slice adn vs.length cpn).ownBlock = some g) HG5.out (fun g e => .inr e)).setCell (.inl rfl) _).block X hXl (fun h => h.elim (fun e => by omega) (fun e => by
              obtain ⟨cur, hc⟩ := own_tag HVS.out e
              rw [hxb] at hc
              cases hc)) |>.trans hxb)
          generalize w5.setCell ⟨Bd, 1, none⟩ (.slice adn' (vs.length + 1) cpn') = w6 at *
          have HT6 := hid HB5.out.turn
          have hax : x < a.fin.length := by have := HN1.out; omega
          have hby : y < b.fin.length := by have := HN1.out; omega
          obtain ⟨ga, oa, hga0, hga1, v4⟩ := bools_at (HAT.out w6 HT6.out).fin hax
          obtain ⟨gb, ob, hgb0, hgb1, v5⟩ := bools_at (HCT.out w6 HT6.out).fin hby
          subst hga0 hgb0
          have hga : ga < Wl.heap.size := by have := HF.out ga hga1; omega
          have hgb : gb < Wl.heap.size := by have := HG.out gb hgb1; omega
          have v0 := cell_blk (i := 2) HB5.out.dbox rfl
          have v2 := cell_blk (i := 2) (HXAT.out w6 HT6.out) rfl
          have v3 := cell_blk (i := 2) (HXCT.out w6 HT6.out) rfl
          have v6 := cell_blk (i := 0) HX5.out rfl
          have v7 := cell_blk (i := 1) HX5.out rfl
          have HEND := hid (show endP (waysF how) a b rows[s] = waysF how a.fin[x] b.fin[y] by
            rw [← HR.out]
            unfold endP
            rw [List.getD_eq_getElem?_getD, List.getD_eq_getElem?_getD, Int.toNat_natCast, Int.toNat_natCast, List.getElem?_eq_getElem hax, List.getElem?_eq_getElem hby]
            rfl)
          have hgd := HGOOD.out
          rw [HEND.out] at hgd
          have HGD := hid hgd
          generalize a.fin[x] = fx at *
          generalize b.fin[y] = fy at *
          clear x1 x2 c1 hgd hxb
          have HKQ := hid (fun (W : World) (h : ∀ g, (g < Wl.heap.size ∨ g = X) → W.heap[g]? = w6.heap[g]?) => (show (fun W : World => W.cell? ⟨Bd, 2, none⟩ = some (.slice ade fin.length cpe) ∧ W.cell? ⟨w.heap.size, 2, none⟩ = some (.slice (some ⟨ga, oa, none⟩) a.fin.length cpc) ∧ W.cell? ⟨w.heap.size + 1, 2, none⟩ = some (.slice (some ⟨gb, ob, none⟩) b.fin.length cpc') ∧ W.cell? ⟨ga, oa + x, none⟩ = some (.bool fx) ∧ W.cell? ⟨gb, ob + y, none⟩ = some (.bool fy) ∧ W.cell? ⟨X, 0, none⟩ = some (.int .i64 (x : Int)) ∧ W.cell? ⟨X, 1, none⟩ = some (.int .i64 (y : Int))) W from ⟨(cell_heap (h _ (.inl hbd))).trans v0, (cell_heap (h _ (.inl (by omega)))).trans v2, (cell_heap (h _ (.inl (by omega)))).trans v3, (cell_heap (h _ (.inl hga))).trans v4, (cell_heap (h _ (.inl hgb))).trans v5, (cell_heap (h _ (.inr rfl))).trans v6, (cell_heap (h _ (.inr rfl))).trans v7⟩))
          have HB6 := hid (HB5.out.below ((Below.refl _ w6).drew))
          have HS := hid (HKQ.out w6.drew (fun _ _ => rfl))
          have HX6 := hid HX5.out
          have hX6 : X < w6.drew.heap.size := lt_of_heap (show w6.drew.heap[X]? = _ from HX5.out)
          have HXE := hid (fun (e : (Value.slice ade fin.length cpe).ownBlock = some X) => (show False by
            obtain ⟨cur, hc⟩ := own_tag HB5.out.fins e
            rw [HX5.out] at hc
            cases hc))
          refine Till.start (S := (fun W : World => W.cell? ⟨Bd, 2, none⟩ = some (.slice ade fin.length cpe) ∧ W.cell? ⟨w.heap.size, 2, none⟩ = some (.slice (some ⟨ga, oa, none⟩) a.fin.length cpc) ∧ W.cell? ⟨w.heap.size + 1, 2, none⟩ = some (.slice (some ⟨gb, ob, none⟩) b.fin.length cpc') ∧ W.cell? ⟨ga, oa + x, none⟩ = some (.bool fx) ∧ W.cell? ⟨gb, ob + y, none⟩ = some (.bool fy) ∧ W.cell? ⟨X, 0, none⟩ = some (.int .i64 (x : Int)) ∧ W.cell? ⟨X, 1, none⟩ = some (.int .i64 (y : Int)))) (n := 19) (by kernel_rfl) ?_
          have hkq0 : ∀ g : Nat, w6.drew.heap[g]? = w6.heap[g]? := fun _ => rfl
          have HK0 := hid hkq0
          clear v0 v2 v3 v4 v5 v6 v7 hkq0 HX5
          generalize w6.drew = w6d at *
          refine Till.take (i := 0) (v := .pointer (some ⟨Bd, 2, none⟩)) rfl (by kernel_rfl) (fun _ _ _ h => h) (Or.inl ⟨by rfl, fun w hS => by go_simp⟩) HS.out ?_
          simp only [Act.put, List.getElem_toArray, List.getElem_cons_zero, List.getElem_cons_succ, List.setIfInBounds_toArray, List.set_cons_zero, List.set_cons_succ]
          refine Till.take (i := 1) (v := .slice ade fin.length cpe) rfl (by kernel_rfl) (fun _ _ _ h => h) (Or.inl ⟨by rfl, fun w hS => by have k0 := hS.1; go_simp⟩) HS.out ?_
          simp only [Act.put, List.getElem_toArray, List.getElem_cons_zero, List.getElem_cons_succ, List.setIfInBounds_toArray, List.set_cons_zero, List.set_cons_succ]
          refine Till.take (i := 2) (v := .pointer (some ⟨w.heap.size, 2, none⟩)) rfl (by kernel_rfl) (fun _ _ _ h => h) (Or.inl ⟨by rfl, fun w hS => by go_simp⟩) HS.out ?_
          simp only [Act.put, List.getElem_toArray, List.getElem_cons_zero, List.getElem_cons_succ, List.setIfInBounds_toArray, List.set_cons_zero, List.set_cons_succ]
          refine Till.take (i := 3) (v := .slice (some ⟨ga, oa, none⟩) a.fin.length cpc) rfl (by kernel_rfl) (fun _ _ _ h => h) (Or.inl ⟨by rfl, fun w hS => by have k1 := hS.2.1; go_simp⟩) HS.out ?_
          simp only [Act.put, List.getElem_toArray, List.getElem_cons_zero, List.getElem_cons_succ, List.setIfInBounds_toArray, List.set_cons_zero, List.set_cons_succ]
          refine Till.take (i := 4) (v := .pointer (some ⟨X, 0, none⟩)) rfl (by kernel_rfl) (fun _ _ _ h => h) (Or.inl ⟨by rfl, fun w hS => by go_simp⟩) HS.out ?_
          simp only [Act.put, List.getElem_toArray, List.getElem_cons_zero, List.getElem_cons_succ, List.setIfInBounds_toArray, List.set_cons_zero, List.set_cons_succ]
          refine Till.take (i := 5) (v := .int .i64 (x : Int)) rfl (by kernel_rfl) (fun _ _ _ h => h) (Or.inl ⟨by rfl, fun w hS => by have k5 := hS.2.2.2.2.2.1; go_simp⟩) HS.out ?_
          simp only [Act.put, List.getElem_toArray, List.getElem_cons_zero, List.getElem_cons_succ, List.setIfInBounds_toArray, List.set_cons_zero, List.set_cons_succ]
          refine Till.take (i := 6) (v := .pointer (some ⟨ga, oa + x, none⟩)) rfl (by kernel_rfl) (fun _ _ _ h => h) (Or.inl ⟨by rfl, fun w hS => by go_simp⟩) HS.out ?_
          simp only [Act.put, List.getElem_toArray, List.getElem_cons_zero, List.getElem_cons_succ, List.setIfInBounds_toArray, List.set_cons_zero, List.set_cons_succ]
          refine Till.take (i := 7) (v := .bool fx) rfl (by kernel_rfl) (fun _ _ _ h => h) (Or.inl ⟨by rfl, fun w hS => by have k3 := hS.2.2.2.1; go_simp⟩) HS.out ?_
          simp only [Act.put, List.getElem_toArray, List.getElem_cons_zero, List.getElem_cons_succ, List.setIfInBounds_toArray, List.set_cons_zero, List.set_cons_succ]
          refine Till.take (i := 8) (v := .pointer (some ⟨w.heap.size + 1, 2, none⟩)) rfl (by kernel_rfl) (fun _ _ _ h => h) (Or.inl ⟨by rfl, fun w hS => by go_simp⟩) HS.out ?_
          simp only [Act.put, List.getElem_toArray, List.getElem_cons_zero, List.getElem_cons_succ, List.setIfInBounds_toArray, List.set_cons_zero, List.set_cons_succ]
          refine Till.take (i := 9) (v := .slice (some ⟨gb, ob, none⟩) b.fin.length cpc') rfl (by kernel_rfl) (fun _ _ _ h => h) (Or.inl ⟨by rfl, fun w hS => by have k2 := hS.2.2.1; go_simp⟩) HS.out ?_
          simp only [Act.put, List.getElem_toArray, List.getElem_cons_zero, List.getElem_cons_succ, List.setIfInBounds_toArray, List.set_cons_zero, List.set_cons_succ]
          refine Till.take (i := 10) (v := .pointer (some ⟨X, 1, none⟩)) rfl (by kernel_rfl) (fun _ _ _ h => h) (Or.inl ⟨by rfl, fun w hS => by go_simp⟩) HS.out ?_
          simp only [Act.put, List.getElem_toArray, List.getElem_cons_zero, List.getElem_cons_succ, List.setIfInBounds_toArray, List.set_cons_zero, List.set_cons_succ]
          refine Till.take (i := 11) (v := .int .i64 (y : Int)) rfl (by kernel_rfl) (fun _ _ _ h => h) (Or.inl ⟨by rfl, fun w hS => by have k6 := hS.2.2.2.2.2.2; go_simp⟩) HS.out ?_
          simp only [Act.put, List.getElem_toArray, List.getElem_cons_zero, List.getElem_cons_succ, List.setIfInBounds_toArray, List.set_cons_zero, List.set_cons_succ]
          refine Till.take (i := 12) (v := .pointer (some ⟨gb, ob + y, none⟩)) rfl (by kernel_rfl) (fun _ _ _ h => h) (Or.inl ⟨by rfl, fun w hS => by go_simp⟩) HS.out ?_
          simp only [Act.put, List.getElem_toArray, List.getElem_cons_zero, List.getElem_cons_succ, List.setIfInBounds_toArray, List.set_cons_zero, List.set_cons_succ]
          refine Till.take (i := 13) (v := .bool fy) rfl (by kernel_rfl) (fun _ _ _ h => h) (Or.inl ⟨by rfl, fun w hS => by have k4 := hS.2.2.2.2.1; go_simp⟩) HS.out ?_
          simp only [Act.put, List.getElem_toArray, List.getElem_cons_zero, List.getElem_cons_succ, List.setIfInBounds_toArray, List.set_cons_zero, List.set_cons_succ]
          refine Till.take (i := 14) (v := .int .i64 (how : Int)) rfl (by kernel_rfl) (fun _ _ _ h => h) (Or.inl ⟨by rfl, fun w hS => by go_simp⟩) HS.out ?_
          simp only [Act.put, List.getElem_toArray, List.getElem_cons_zero, List.getElem_cons_succ, List.setIfInBounds_toArray, List.set_cons_zero, List.set_cons_succ]
          refine Till.all (rs := [15]) (by kernel_rfl) (by simp) (Each.cons rfl (fun K hK => ?_) Each.nil)
          go_simp
          refine (endR_any fx fy how hhow _).mono ?_
          rintro e' w6d ⟨rfl, rfl⟩
          refine hK.out _ _ (fun _ => HS.out) ?_
          clear hK K
          try simp only [Act.put, List.getElem_toArray, List.getElem_cons_zero, List.getElem_cons_succ, List.setIfInBounds_toArray, List.set_cons_zero, List.set_cons_succ]
          refine Till.all (rs := [16]) (by kernel_rfl) (by simp) (Each.cons rfl (fun K hK => ?_) Each.nil)
          go_simp
          have hwl6 := HB6.out.turn.size
          have hold : ∀ g, (g < Wl.heap.size ∨ g = X) → g < w6d.heap.size := fun g hg => hg.elim (fun h => by omega) (fun h => by omega)
          have HOLD := hid hold
          clear hold
          refine hK.out _ _ (fun _ => HKQ.out _ (fun g hg => (alloc_old (HOLD.out g hg)).trans (HK0.out g))) ?_
          clear hK K
          refine Till.all (rs := [17]) (by kernel_rfl) (by simp) (Each.cons rfl (fun K hK => ?_) Each.nil)
          refine step_append rfl (.tmp 156) (.tmp 171) 28 rfl Wl.heap.size 4 iB (.bool false) 1 1 Tryd.underlying28 HIB.out HZB.out.1 HZB.out.2.1 HZB.out.2.2 rfl (by decide) (.slice ade fin.length cpe) fin.length (fin.map Value.bool) (by rfl) (HB6.out.fins.alloc _) ⟨w6d.heap.size, 0, none⟩ 1 1 [.bool (waysF how fx fy)] (by rfl) rfl (cell_one_new _ _ _) (one_cell_one rfl) (by unfold maxLen; omega) (by omega) (by simp; omega) ?_
          intro ev' w8 ho8 hg8 _
          obtain ⟨ade', cpe', rfl⟩ := own_shape ho8
          have HO8 := hid ho8
          have HG8 := hid hg8
          have hd8 := HB6.out.dbox2 hbd HB6.out.fins hg8
          have hq8 : ∀ g, (g < Wl.heap.size ∨ g = X) → w8.heap[g]? = w6.heap[g]? := fun g hg => (hg8.block g (by have := HOLD.out g hg; simp; omega) (fun e => by
            rcases hg with h | rfl
            · have := (HB6.out.fins.lt _ e.symm).1; omega
            · exact HXE.out e.symm)).trans ((alloc_old (HOLD.out g hg)).trans (HK0.out g))
          have HQ8 := hid hq8
          refine hK.out _ _ (fun _ => HKQ.out _ HQ8.out) ?_
          have HS8 := hid (HKQ.out w8 HQ8.out)
          have y1 := cell_blk (i := 2) hd8 rfl
          have y2 := free_box (i := 2) hd8
          clear hK K ho8 hg8 hd8 hq8
          simp only [Act.put, List.getElem_toArray, List.getElem_cons_zero, List.getElem_cons_succ, List.setIfInBounds_toArray, List.set_cons_zero, List.set_cons_succ]
          refine Till.take (i := 18) (v := .pointer (some ⟨Bd, 2, none⟩)) rfl (by kernel_rfl) (fun _ _ _ h => h) (Or.inl ⟨by rfl, fun w hS => by go_simp⟩) HS8.out ?_
          simp only [Act.put, List.getElem_toArray, List.getElem_cons_zero, List.getElem_cons_succ, List.setIfInBounds_toArray, List.set_cons_zero, List.set_cons_succ]
          refine Till.all (rs := [19]) (by kernel_rfl) (by simp) (Each.cons rfl (fun K hK => ?_) Each.nil)
          go_simp
          refine hK.out _ _ (fun h => absurd h (by decide)) ?_
          clear hK K
          refine Till.done (by kernel_rfl) ?_ _
          have HB9 := hid (HB6.out.addFin hbd n1 (x := waysF how fx fy) HO8.out HG8.out)
          go_wp2_with fail
          refine And.intro ?_ ?_
          · exact ⟨s + 1, rows', next ++ [acc], fin ++ [waysF how fx fy], _, _, by go_num, HB9.out, HGD, hid hnx.out.1⟩
          · simp [intOf]; omega
        -- part2>
    · have HLAST := hid (hnum.out.last hs)
      have hs' : ¬ ((s : Int) < (rows.length : Int)) := by omega
      obtain ⟨vs, hvs, hvl, _⟩ := HB.out.nxt.ex
      obtain ⟨adn, cpn, rfl⟩ := own_shape hvs
      obtain ⟨ade, cpe, rfl⟩ := own_shape HB.out.fins
      have HTB := hid HB.out.turn
      have hzt := HTB.out.size
      have HTU := hid (show Turn (fun g => g = w.heap.size + 1 + 1) wr (wr.setRow (w.heap.size + 1 + 1) #[.slice (some ⟨C, 0, none⟩) 256 256, .slice adn vs.length cpn, .slice ade fin.length cpe]) from turn_setRow (S := fun g => g = w.heap.size + 1 + 1) rfl _)
      have H1 := hid (setRow_heap (HRT.out wr HTB.out) #[.slice (some ⟨C, 0, none⟩) 256 256, .slice adn vs.length cpn, .slice ade fin.length cpe])
      have HDF := hid (HB.out.dfa (B := w.heap.size) (HCLT.out wr HTB.out) (clsOf_len _ _) (by omega) (by omega) (by omega) HTU.out)
      have HBE := hid ((HBT.out wr HTB.out).trans (HTU.out.below (by omega) (fun g hg => by omega)))
      clear hvs hvl
      go_upto_region 35 with fail
      go_step
      refine wpList_load_blk rfl 30 (.tmp 18) rfl 3 infoDfa _ Tryd.underlying30 rfl Bd rfl 30 _ HB.out.dbox rfl ?_
      refine wpList_store_blk rfl 30 (.tmp 6) (.tmp 174) rfl 3 infoDfa (w.heap.size + 1 + 1) 30 _ (HRT.out wr HTB.out) rfl #[.slice (some ⟨C, 0, none⟩) 256 256, .slice adn vs.length cpn, .slice ade fin.length cpe] (by rfl) (by rfl) rfl rfl ?_
      generalize wr.setRow (w.heap.size + 1 + 1) #[.slice (some ⟨C, 0, none⟩) 256 256, .slice adn vs.length cpn, .slice ade fin.length cpe] = W5 at *
      go_wp2_with fail
      refine bodyPost_ret (results_cell_one (ty := 30) rfl _ _ (w.heap.size + 1 + 1) 30 _ (0, 0) _ rfl H1.out Tryd.underlying30 rfl (by kernel_rfl)) rfl ?_
      rw [HXR.out, HLAST.out]
      exact ⟨_, _, _, rfl, HDF.out, HBE.out⟩
end Go.Proofs.YtfjomnhdmkbkiaaDoor.Im

namespace Go.Proofs.YtfjomnhdmkbkiaaDoor.Im
open Go.RowKit Go.Lib Go.Maps Go.Shelf

set_option maxRecDepth 100000 in
set_option maxHeartbeats 4000000 in
theorem joinR_bad {F G : Nat → Prop} {w : World} {how : Nat} {a1 a2 a3 b1 b2 b3 : Value} {a b : Dfa} (ha : DfaIn F w a1 a2 a3 a) (hb : DfaIn G w b1 b2 b3 b) (hF : ∀ g, F g → g < w.heap.size) (hG : ∀ g, G g → g < w.heap.size) (hno : ¬ (dfaOk a = true ∧ dfaOk b = true)) :
    Calls Tryd.prog 33 #[.agg #[a1, a2, a3], .agg #[b1, b2, b3], .int .i64 how] w (OfPost w (.error 1)) := by
  obtain ⟨W0, hW0⟩ : ∃ W0, W0 = ((w.alloc (.cells #[a1, a2, a3] 30)).alloc (.cells #[b1, b2, b3] 30)).alloc (.cells #[.slice none 0 0, .slice none 0 0, .slice none 0 0] 30) := ⟨_, rfl⟩
  have hA0 : W0.heap[w.heap.size]? = some (.cells #[a1, a2, a3] 30 (0, 0)) := by rw [hW0]; exact (alloc_old (by simp; omega)).trans ((alloc_old (by simp)).trans (heap_alloc_new _ _))
  have hC0 : W0.heap[w.heap.size + 1]? = some (.cells #[b1, b2, b3] 30 (0, 0)) := by rw [hW0]; exact (alloc_old (by simp)).trans (newB _ _ _)
  have hR0 : W0.heap[w.heap.size + 1 + 1]? = some (.cells #[.slice none 0 0, .slice none 0 0, .slice none 0 0] 30 (0, 0)) := by
    rw [hW0]
    have := newB (w.alloc (.cells #[a1, a2, a3] 30)) (.cells #[b1, b2, b3] 30) (.cells #[.slice none 0 0, .slice none 0 0, .slice none 0 0] 30)
    rw [World.size_alloc] at this
    exact this
  have hB0 : Below w.heap.size w W0 := by rw [hW0]; exact (((Below.refl _ _).alloc (Nat.le_refl _) _).alloc (by simp) _).alloc (by simp; omega) _
  have HBW := hid (fun (W : World) (h : Below W0.heap.size W0 W) => hB0.trans (h.mono hB0.size))
  have HAW := hid (fun (W : World) (h : Below W0.heap.size W0 W) => (show DfaIn F W a1 a2 a3 a from ha.frame (fun _ h => h) (fun g hg _ => (HBW.out W h).block g (hF g hg))))
  have HCW := hid (fun (W : World) (h : Below W0.heap.size W0 W) => (show DfaIn G W b1 b2 b3 b from hb.frame (fun _ h => h) (fun g hg _ => (HBW.out W h).block g (hG g hg))))
  have HF := hid hF
  have HG := hid hG
  have HXA := hid (fun (W : World) (h : Below W0.heap.size W0 W) => (h.block w.heap.size (lt_of_heap hA0)).trans hA0)
  have HXC := hid (fun (W : World) (h : Below W0.heap.size W0 W) => (h.block (w.heap.size + 1) (lt_of_heap hC0)).trans hC0)
  have HRW := hid (fun (W : World) (h : Below W0.heap.size W0 W) => (h.block (w.heap.size + 1 + 1) (lt_of_heap hR0)).trans hR0)
  have HTH := hid (fun (W W' : World) (h : Below W0.heap.size W0 W) (h' : Below W.heap.size W W') => h.trans (h'.mono h.size))
  obtain ⟨ada, cpa, rfl, hma, _⟩ := ha.cls
  obtain ⟨adb, cpb, rfl, hmb, _⟩ := ha.next
  obtain ⟨adc, cpc, rfl, hmc, _⟩ := ha.fin
  obtain ⟨ada', cpa', rfl, hma', _⟩ := hb.cls
  obtain ⟨adb', cpb', rfl, hmb', _⟩ := hb.next
  obtain ⟨adc', cpc', rfl, hmc', _⟩ := hb.fin
  have HW0 := hid hW0
  have HNO := hid hno
  clear ha hb hF hG hno hA0 hC0 hR0 hB0 hW0
  obtain ⟨q0, q1, q2⟩ := dcells (HXA.out W0 (Below.refl _ _))
  obtain ⟨r0, r1, r2⟩ := dcells (HXC.out W0 (Below.refl _ _))
  have hch := rightR_any (HAW.out W0 (Below.refl _ _)) (fun g hg => Nat.lt_of_lt_of_le (HF.out g hg) (HBW.out W0 (Below.refl _ _)).size)
  go_enter Tryd.func33, Tryd.ntmps33
  go_upto_region 1 with fail
  rw [← HW0.out]
  cases hoka : dfaOk a with
  | false =>
    rw [hoka] at hch
    clear hoka
    go_wp2_with fail
    refine hch.mono ?_
    clear hch q0 q1 q2 r0 r1 r2
    rintro e w1 ⟨rfl, hb1⟩
    have H1 := hid (HTH.out _ _ (Below.refl _ _) hb1)
    have HRES := hid (HRW.out w1 H1.out)
    clear hb1
    go_wp2_with (refine wpList_store_same rfl 30 (.tmp 6) (.tmp 35) rfl 3 infoDfa (w.heap.size + 1 + 1) 30 _ HRES.out rfl (by rfl) (by rfl) rfl ?_)
    refine bodyPost_ret (results_cell_one (ty := 30) rfl _ _ (w.heap.size + 1 + 1) 30 _ (0, 0) _ rfl HRES.out Tryd.underlying30 rfl (by kernel_rfl)) rfl ?_
    exact ⟨rfl, HBW.out _ H1.out⟩
  | true =>
    have hokb : dfaOk b = false := by
      cases h : dfaOk b with
      | false => rfl
      | true => exact absurd ⟨hoka, h⟩ HNO.out
    rw [hoka] at hch
    have HOB := hid hokb
    clear hoka hokb
    go_wp2_with fail
    refine hch.mono ?_
    clear hch q0 q1 q2 r0 r1 r2
    rintro e w1 ⟨rfl, hb1⟩
    have H1 := hid (HTH.out _ _ (Below.refl _ _) hb1)
    clear hb1
    obtain ⟨r0, r1, r2⟩ := dcells (HXC.out w1 H1.out)
    have hch := rightR_any (HCW.out w1 H1.out) (fun g hg => Nat.lt_of_lt_of_le (HG.out g hg) (HBW.out w1 H1.out).size)
    rw [HOB.out] at hch
    go_wp2_with fail
    refine hch.mono ?_
    clear hch r0 r1 r2
    rintro e w2 ⟨rfl, hb2⟩
    have H2 := hid (HTH.out _ _ H1.out hb2)
    have HRES := hid (HRW.out w2 H2.out)
    clear hb2
    go_wp2_with (refine wpList_store_same rfl 30 (.tmp 6) (.tmp 35) rfl 3 infoDfa (w.heap.size + 1 + 1) 30 _ HRES.out rfl (by rfl) (by rfl) rfl ?_)
    refine bodyPost_ret (results_cell_one (ty := 30) rfl _ _ (w.heap.size + 1 + 1) 30 _ (0, 0) _ rfl HRES.out Tryd.underlying30 rfl (by kernel_rfl)) rfl ?_
    exact ⟨rfl, HBW.out _ H2.out⟩
theorem joinR_any {F G : Nat → Prop} {w : World} {how : Nat} (hhow : how < 4) {a1 a2 a3 b1 b2 b3 : Value} {a b : Dfa} (ha : DfaIn F w a1 a2 a3 a) (hb : DfaIn G w b1 b2 b3 b) (hF : ∀ g, F g → g < w.heap.size) (hG : ∀ g, G g → g < w.heap.size) :
    Calls Tryd.prog 33 #[.agg #[a1, a2, a3], .agg #[b1, b2, b3], .int .i64 how] w (OfOut w (joinM (waysF how) a b)) := by
  by_cases h : dfaOk a = true ∧ dfaOk b = true
  · exact (joinR_main hhow ha hb hF hG h.1 h.2).mono fun _ _ hp => OfOut.of hp
  · rw [join_bad _ h]
    exact (joinR_bad ha hb hF hG h).mono fun _ _ hp => OfOut.of hp
/-- what Not hands back: it may share the argument's memory -/
def NotOut (w : World) (x : Except Int Dfa) (e : Ending) (w' : World) : Prop := ∃ x1 c1 x2 c2 x3 c3, e = .returned (.tuple #[.agg #[.slice x1 (outX x).1.cls.length c1, .slice x2 (outX x).1.next.length c2, .slice x3 (outX x).1.fin.length c3], .int .i64 (outX x).2]) ∧ DfaIn (fun g => g < w'.heap.size) w' (.slice x1 (outX x).1.cls.length c1) (.slice x2 (outX x).1.next.length c2) (.slice x3 (outX x).1.fin.length c3) (outX x).1 ∧ Below w.heap.size w w'
theorem NotOut.again {w w' : World} {x : Except Int Dfa} {e : Ending} (h : NotOut w x e w') : ∃ x1 c1 x2 c2 x3 c3, e = .returned (.tuple #[.agg #[.slice x1 (outX x).1.cls.length c1, .slice x2 (outX x).1.next.length c2, .slice x3 (outX x).1.fin.length c3], .int .i64 (outX x).2]) ∧ DfaIn (fun g => g < w'.heap.size) w' (.slice x1 (outX x).1.cls.length c1) (.slice x2 (outX x).1.next.length c2) (.slice x3 (outX x).1.fin.length c3) (outX x).1 ∧ Below w.heap.size w w' := h
theorem notR_out {F : Nat → Prop} {w : World} {a1 a2 a3 : Value} {a : Dfa} (ha : DfaIn F w a1 a2 a3 a) (hF : ∀ g, F g → g < w.heap.size) :
    Calls Tryd.prog 35 #[.agg #[a1, a2, a3]] w (NotOut w (notM a)) := (notR_any ha hF).mono fun _ _ h => h
/-- what was handed back, put into a box; it may hold what came in -/
theorem ABox.new' {w : World} {c1 c2 c3 : Nat} {x1 x2 x3 : Option Addr} {d : Dfa} (h : DfaIn (fun q => q < w.heap.size) w (.slice x1 d.cls.length c1) (.slice x2 d.next.length c2) (.slice x3 d.fin.length c3) d) :
    ABox (w.heap.size + 1) (w.alloc (.cells #[.slice x1 d.cls.length c1, .slice x2 d.next.length c2, .slice x3 d.fin.length c3] 30)) w.heap.size x1 c1 x2 c2 x3 c3 d :=
  ⟨heap_alloc_new _ _, Nat.lt_succ_self _, h.frame (fun q hq => Nat.lt_succ_of_lt hq) (fun q hq hl => alloc_old hl), by rw [World.size_alloc]; exact Nat.le_refl _⟩
/-- the function value fv joins two automatons by f -/
def JoinOk (fv : FuncId) (f : Bool → Bool → Bool) : Prop := ∀ (F G : Nat → Prop) (W : World) (a1 a2 a3 b1 b2 b3 : Value) (a b : Dfa), DfaIn F W a1 a2 a3 a → DfaIn G W b1 b2 b3 b → (∀ g, F g → g < W.heap.size) → (∀ g, G g → g < W.heap.size) → Tab W →
  ∀ (o : Oper) (act : Act) (K : Act → World → Prop) (Q : Exit → Act → World → Prop), (∀ v w', OfOut W (joinM f a b) (.returned v) w' → K (act.put o.dst v) w') → Oper.upon Tryd.prog o act K Q ((callFunc fv #[.agg #[a1, a2, a3], .agg #[b1, b2, b3]]).run Tryd.prog W)
set_option maxRecDepth 100000 in
theorem jok_and : JoinOk 29 (fun x y => x && y) := by
  intro F G W a1 a2 a3 b1 b2 b3 a b ha hb hF hG hT o act K Q hK
  have he : (callFunc 29 #[.agg #[a1, a2, a3], .agg #[b1, b2, b3]]).run Tryd.prog W = .ok (.enter 29 #[.agg #[a1, a2, a3], .agg #[b1, b2, b3]]) W := by
    have hf := Tryd.func29
    simp [callFunc, hf]
    rfl
  rw [he]
  refine (bAnd_any ha hb hF hG hT).mono ?_
  intro e w' hp
  obtain ⟨a, b, c, rfl, h1, h2⟩ := hp
  exact hK _ _ ⟨a, b, c, rfl, h1, h2⟩
set_option maxRecDepth 100000 in
theorem jok_or : JoinOk 30 (fun x y => x || y) := by
  intro F G W a1 a2 a3 b1 b2 b3 a b ha hb hF hG hT o act K Q hK
  have he : (callFunc 30 #[.agg #[a1, a2, a3], .agg #[b1, b2, b3]]).run Tryd.prog W = .ok (.enter 30 #[.agg #[a1, a2, a3], .agg #[b1, b2, b3]]) W := by
    have hf := Tryd.func30
    simp [callFunc, hf]
    rfl
  rw [he]
  refine (bOr_any ha hb hF hG hT).mono ?_
  intro e w' hp
  obtain ⟨a, b, c, rfl, h1, h2⟩ := hp
  exact hK _ _ ⟨a, b, c, rfl, h1, h2⟩
set_option maxRecDepth 100000 in
theorem jok_less : JoinOk 31 (fun x y => x && !y) := by
  intro F G W a1 a2 a3 b1 b2 b3 a b ha hb hF hG hT o act K Q hK
  have he : (callFunc 31 #[.agg #[a1, a2, a3], .agg #[b1, b2, b3]]).run Tryd.prog W = .ok (.enter 31 #[.agg #[a1, a2, a3], .agg #[b1, b2, b3]]) W := by
    have hf := Tryd.func31
    simp [callFunc, hf]
    rfl
  rw [he]
  refine (bLess_any ha hb hF hG hT).mono ?_
  intro e w' hp
  obtain ⟨a, b, c, rfl, h1, h2⟩ := hp
  exact hK _ _ ⟨a, b, c, rfl, h1, h2⟩
set_option maxRecDepth 100000 in
theorem jok_apart : JoinOk 32 (fun x y => x != y) := by
  intro F G W a1 a2 a3 b1 b2 b3 a b ha hb hF hG hT o act K Q hK
  have he : (callFunc 32 #[.agg #[a1, a2, a3], .agg #[b1, b2, b3]]).run Tryd.prog W = .ok (.enter 32 #[.agg #[a1, a2, a3], .agg #[b1, b2, b3]]) W := by
    have hf := Tryd.func32
    simp [callFunc, hf]
    rfl
  rw [he]
  refine (bApart_any ha hb hF hG hT).mono ?_
  intro e w' hp
  obtain ⟨a, b, c, rfl, h1, h2⟩ := hp
  exact hK _ _ ⟨a, b, c, rfl, h1, h2⟩
theorem three_all {w : World} {P : Nat} {a b c : Value} {T : TypeId} (x y z : Value) (h : w.heap[P]? = some (.cells #[a, b, c] T (0, 0))) : (((w.setCell ⟨P, 0, none⟩ x).setCell ⟨P, 1, none⟩ y).setCell ⟨P, 2, none⟩ z).heap[P]? = some (.cells #[x, y, z] T (0, 0)) := by
  rw [heap_setCell_same _ _ _ _ _ _ (heap_setCell_same _ _ _ _ _ _ (heap_setCell_same _ _ _ _ _ _ h))]; rfl
theorem ABox.born {w W : World} {B P c1 c2 c3 : Nat} {x1 x2 x3 : Option Addr} {d : Dfa} (h : DfaIn (fun q => B ≤ q ∧ q < w.heap.size) w (.slice x1 d.cls.length c1) (.slice x2 d.next.length c2) (.slice x3 d.fin.length c3) d) (hk : ∀ g, B ≤ g → g < w.heap.size → W.heap[g]? = w.heap[g]?) (hz : w.heap.size ≤ W.heap.size) (hP : W.heap[P]? = some (.cells #[.slice x1 d.cls.length c1, .slice x2 d.next.length c2, .slice x3 d.fin.length c3] 30 (0, 0))) :
    ABox W.heap.size W P x1 c1 x2 c2 x3 c3 d :=
  ⟨hP, lt_of_heap hP, h.frame (fun q hq => Nat.lt_of_lt_of_le hq.2 hz) (fun q hq _ => hk q hq.1 hq.2), Nat.le_refl _⟩
set_option maxRecDepth 100000 in
set_option maxHeartbeats 16000000 in
theorem bjoin_go {F G : Nat → Prop} {w : World} {a1 a2 a3 b1 b2 b3 : Value} {a b : Dfa} (ha : DfaIn F w a1 a2 a3 a) (hb : DfaIn G w b1 b2 b3 b) (hF : ∀ g, F g → g < w.heap.size) (hG : ∀ g, G g → g < w.heap.size) (hT : Tab w) :
    Calls Tryd.prog 8 #[.agg #[a1, a2, a3], .agg #[b1, b2, b3]] w (AwPost w) := by
  obtain ⟨W0, hW0⟩ : ∃ W0, W0 = (w.alloc (.cells #[a1, a2, a3] 30)).alloc (.cells #[b1, b2, b3] 30) := ⟨_, rfl⟩
  have hA0 : W0.heap[w.heap.size]? = some (.cells #[a1, a2, a3] 30 (0, 0)) := by rw [hW0]; exact (alloc_old (by simp)).trans (heap_alloc_new _ _)
  have hC0 : W0.heap[w.heap.size + 1]? = some (.cells #[b1, b2, b3] 30 (0, 0)) := by rw [hW0]; exact newB _ _ _
  have hB0 : Below w.heap.size w W0 := by rw [hW0]; exact ((Below.refl _ _).alloc (Nat.le_refl _) _).alloc (by simp) _
  have hz0 : W0.heap.size = w.heap.size + 2 := by rw [hW0]; simp
  obtain ⟨ada, cpa, rfl, hma, _⟩ := ha.cls
  obtain ⟨adb, cpb, rfl, hmb, _⟩ := ha.next
  obtain ⟨adc, cpc, rfl, hmc, _⟩ := ha.fin
  obtain ⟨ada', cpa', rfl, hma', _⟩ := hb.cls
  obtain ⟨adb', cpb', rfl, hmb', _⟩ := hb.next
  obtain ⟨adc', cpc', rfl, hmc', _⟩ := hb.fin
  unfold maxLen at hma hmb hmc hma' hmb' hmc'
  have Ha := hid (ABox.arg (L := w.heap.size + 2) ha hF hB0 hA0 (by omega) (by omega) (by omega))
  have Hb := hid (ABox.arg (L := w.heap.size + 2) hb hG hB0 hC0 (by omega) (by omega) (by omega))
  have HB := hid hB0
  have HT := hid (fun (W : World) (h : Below w.heap.size w W) => (show Tab W from hT.below h))
  have HW0 := hid hW0
  clear ha hb hF hG hT hA0 hC0 hB0 hW0 hz0
  obtain ⟨p00, p01, p02⟩ := Ha.out.cells
  obtain ⟨p10, p11, p12⟩ := Hb.out.cells
  have hc := few_shows Ha.out.dfa Ha.out.fits
  go_enter Tryd.func8, Tryd.ntmps8
  go_upto_region 1 with fail
  rw [← HW0.out]
  clear HW0
  go_wp2_with fail
  refine hc.mono ?_
  clear hc p00 p01 p02 p10 p11 p12
  rintro e w0 ⟨⟨xa, rfl, hfa⟩, hb⟩
  have Ha := hid (Ha.out.below (hb.mono Ha.out.le))
  have Hb := hid (Hb.out.below (hb.mono Hb.out.le))
  have HB := hid (HB.out.trans (hb.mono HB.out.size))
  have HFA := hid hfa
  clear hb hfa
  cases xa with
  | false =>
    go_wp2_with fail
    go_ret
    exact ⟨rfl, HB.out⟩
  | true =>
  obtain ⟨p10, p11, p12⟩ := Hb.out.cells
  have hc := few_shows Hb.out.dfa Hb.out.fits
  go_wp2_with fail
  refine hc.mono ?_
  clear hc p10 p11 p12
  rintro e w1 ⟨⟨xb, rfl, hfb⟩, hb⟩
  have Ha := hid (Ha.out.below (hb.mono Ha.out.le))
  have Hb := hid (Hb.out.below (hb.mono Hb.out.le))
  have HB := hid (HB.out.trans (hb.mono HB.out.size))
  have HFB := hid hfb
  clear hb hfb HFA
  cases xb with
  | false =>
    go_wp2_with fail
    go_ret
    exact ⟨rfl, HB.out⟩
  | true =>
  clear HFB
  go_upto_region 4 with fail
  have hzs := HB.out.size
  obtain ⟨Wl, hWl⟩ : ∃ Wl, Wl = w1.alloc (.cells #[.func (.func 29) #[] #[], .func (.func 30) #[] #[], .func (.func 31) #[] #[], .func (.func 32) #[] #[]] 51) := ⟨_, rfl⟩
  have hb : Below w1.heap.size w1 Wl := by rw [hWl]; exact (Below.refl _ _).alloc (Nat.le_refl _) _
  have HS1 := hid (show Wl.heap[w1.heap.size]? = some (.cells #[.func (.func 29) #[] #[], .func (.func 30) #[] #[], .func (.func 31) #[] #[], .func (.func 32) #[] #[]] 51 (0, 0)) by rw [hWl]; exact heap_alloc_new _ _)
  rw [← hWl]
  have Ha := hid (Ha.out.below (hb.mono Ha.out.le))
  have Hb := hid (Hb.out.below (hb.mono Hb.out.le))
  have HB := hid (HB.out.trans (hb.mono HB.out.size))
  clear hb hWl hzs
  generalize w1.heap.size = S1 at *
  have hs1 := lt_of_heap HS1.out
  have HAl := hid Ha.out
  have HCl := hid Hb.out
  have HBw := hid HB.out
  have HBl := hid (Below.refl Wl.heap.size Wl)
  clear Ha Hb HB
  go_wp2_with fail
  go_loopw [6] (fun i wr => ∃ k : Nat, k ≤ 4 ∧ i = .int .i64 k ∧ Below Wl.heap.size Wl wr) (fun i _ => 4 - (intOf i).toNat)
  case atStart => exact ⟨0, by decide, rfl, HBl.out⟩
  case round =>
    obtain ⟨k, hk, rfl, hbl⟩ := hrel
    have HBl := hid hbl
    have Ha := hid (HAl.out.below (hbl.mono HAl.out.le))
    have Hb := hid (HCl.out.below (hbl.mono HCl.out.le))
    have HB := hid (HBw.out.trans (hbl.mono HBw.out.size))
    have hs1w : S1 < wr.heap.size := Nat.lt_of_lt_of_le hs1 hbl.size
    clear hbl
    by_cases hlt : k < 4
    · obtain ⟨fv, f, hs1k, hj, hwf⟩ : ∃ (fv : FuncId) (f : Bool → Bool → Bool), Wl.cell? ⟨S1, k, none⟩ = some (.func (.func fv) #[] #[]) ∧ JoinOk fv f ∧ waysF k = f := by
        match k, hlt with
        | 0, _ => exact ⟨_, _, cell_blk HS1.out rfl, jok_and, rfl⟩
        | 1, _ => exact ⟨_, _, cell_blk HS1.out rfl, jok_or, rfl⟩
        | 2, _ => exact ⟨_, _, cell_blk HS1.out rfl, jok_less, rfl⟩
        | 3, _ => exact ⟨_, _, cell_blk HS1.out rfl, jok_apart, rfl⟩
      have HJ := hid hj
      have HWF := hid hwf
      have HK4 := hid hlt
      have s1 := (HBl.out.cell (p := ⟨S1, k, none⟩) hs1).trans hs1k
      have HAD := hid Ha.out.dfa
      have HBD := hid Hb.out.dfa
      obtain ⟨p00, p01, p02⟩ := Ha.out.cells
      obtain ⟨p10, p11, p12⟩ := Hb.out.cells
      have hkI : (k : Int) < 4 := by omega
      clear hs1k hj hwf hs1
      have hs1 := hs1w
      obtain ⟨dx, hdx⟩ : ∃ dx, dx = (outX (joinM f a b)).1 := ⟨_, rfl⟩
      obtain ⟨ex, hex⟩ : ∃ ex, ex = (outX (joinM f a b)).2 := ⟨_, rfl⟩
      have HDX := hid hdx
      have HEX := hid hex
      have HX := hid hlt
      clear hdx hex
      go_upto_region 7 with fail
      have HKP := hid (fun (W : World) (h : Below wr.heap.size wr W) => (show (fun W : World => W.cell? ⟨w.heap.size, 0, none⟩ = some (.slice ada a.cls.length cpa) ∧ W.cell? ⟨w.heap.size, 1, none⟩ = some (.slice adb a.next.length cpb) ∧ W.cell? ⟨w.heap.size, 2, none⟩ = some (.slice adc a.fin.length cpc) ∧ W.cell? ⟨w.heap.size + 1, 0, none⟩ = some (.slice ada' b.cls.length cpa') ∧ W.cell? ⟨w.heap.size + 1, 1, none⟩ = some (.slice adb' b.next.length cpb') ∧ W.cell? ⟨w.heap.size + 1, 2, none⟩ = some (.slice adc' b.fin.length cpc') ∧ W.cell? ⟨S1, k, none⟩ = some (.func (.func fv) #[] #[])) W from ⟨(h.cell (Nat.lt_of_lt_of_le Ha.out.lt Ha.out.le)).trans p00, (h.cell (Nat.lt_of_lt_of_le Ha.out.lt Ha.out.le)).trans p01, (h.cell (Nat.lt_of_lt_of_le Ha.out.lt Ha.out.le)).trans p02, (h.cell (Nat.lt_of_lt_of_le Hb.out.lt Hb.out.le)).trans p10, (h.cell (Nat.lt_of_lt_of_le Hb.out.lt Hb.out.le)).trans p11, (h.cell (Nat.lt_of_lt_of_le Hb.out.lt Hb.out.le)).trans p12, (h.cell hs1).trans s1⟩))
      have HCUR := hid ((Below.refl wr.heap.size wr).drew)
      have HS := hid (HKP.out _ HCUR.out)
      clear p00 p01 p02 p10 p11 p12 s1
      refine wp_region_held_drew (S := (fun W : World => W.cell? ⟨w.heap.size, 0, none⟩ = some (.slice ada a.cls.length cpa) ∧ W.cell? ⟨w.heap.size, 1, none⟩ = some (.slice adb a.next.length cpb) ∧ W.cell? ⟨w.heap.size, 2, none⟩ = some (.slice adc a.fin.length cpc) ∧ W.cell? ⟨w.heap.size + 1, 0, none⟩ = some (.slice ada' b.cls.length cpa') ∧ W.cell? ⟨w.heap.size + 1, 1, none⟩ = some (.slice adb' b.next.length cpb') ∧ W.cell? ⟨w.heap.size + 1, 2, none⟩ = some (.slice adc' b.fin.length cpc') ∧ W.cell? ⟨S1, k, none⟩ = some (.func (.func fv) #[] #[]))) (by kernel_rfl) HS.out (fun _ => ?_)
      refine wpAnyH_take (i := 0) (v := .slice (some ⟨S1, 0, none⟩) 4 4) rfl (by kernel_rfl) (by kernel_rfl) (by kernel_rfl) (fun _ _ _ h => h) (Or.inl ⟨by rfl, fun w hS => by go_simp⟩) HS.out ?_
      simp only [Act.put, List.getElem_toArray, List.getElem_cons_zero, List.getElem_cons_succ, List.setIfInBounds_toArray, List.set_cons_zero, List.set_cons_succ]
      refine wpAnyH_take (i := 1) (v := .int .i64 k) rfl (by kernel_rfl) (by kernel_rfl) (by kernel_rfl) (fun _ _ _ h => h) (Or.inl ⟨by rfl, fun w hS => by go_simp⟩) HS.out ?_
      simp only [Act.put, List.getElem_toArray, List.getElem_cons_zero, List.getElem_cons_succ, List.setIfInBounds_toArray, List.set_cons_zero, List.set_cons_succ]
      refine wpAnyH_take (i := 2) (v := .pointer (some ⟨S1, k, none⟩)) rfl (by kernel_rfl) (by kernel_rfl) (by kernel_rfl) (fun _ _ _ h => h) (Or.inl ⟨by rfl, fun w hS => by go_simp⟩) HS.out ?_
      simp only [Act.put, List.getElem_toArray, List.getElem_cons_zero, List.getElem_cons_succ, List.setIfInBounds_toArray, List.set_cons_zero, List.set_cons_succ]
      refine wpAnyH_take (i := 3) (v := .func (.func fv) #[] #[]) rfl (by kernel_rfl) (by kernel_rfl) (by kernel_rfl) (fun _ _ _ h => h) (Or.inl ⟨by rfl, fun w hS => by have k6 := hS.2.2.2.2.2.2; go_simp⟩) HS.out ?_
      simp only [Act.put, List.getElem_toArray, List.getElem_cons_zero, List.getElem_cons_succ, List.setIfInBounds_toArray, List.set_cons_zero, List.set_cons_succ]
      refine wpAnyH_take (i := 4) (v := .agg #[.slice ada a.cls.length cpa, .slice adb a.next.length cpb, .slice adc a.fin.length cpc]) rfl (by kernel_rfl) (by kernel_rfl) (by kernel_rfl) (fun _ _ _ h => h) (Or.inl ⟨by rfl, fun w hS => by have k0 := hS.1; have k1 := hS.2.1; have k2 := hS.2.2.1; go_simp⟩) HS.out ?_
      simp only [Act.put, List.getElem_toArray, List.getElem_cons_zero, List.getElem_cons_succ, List.setIfInBounds_toArray, List.set_cons_zero, List.set_cons_succ]
      refine wpAnyH_take (i := 5) (v := .agg #[.slice ada' b.cls.length cpa', .slice adb' b.next.length cpb', .slice adc' b.fin.length cpc']) rfl (by kernel_rfl) (by kernel_rfl) (by kernel_rfl) (fun _ _ _ h => h) (Or.inl ⟨by rfl, fun w hS => by have k3 := hS.2.2.2.1; have k4 := hS.2.2.2.2.1; have k5 := hS.2.2.2.2.2.1; go_simp⟩) HS.out ?_
      simp only [Act.put, List.getElem_toArray, List.getElem_cons_zero, List.getElem_cons_succ, List.setIfInBounds_toArray, List.set_cons_zero, List.set_cons_succ]
      refine wpAnyH_ready (rs := [6, 10]) (by kernel_rfl) (by simp) (AllReadyH.cons rfl (fun K hK => ?_) (AllReadyH.cons rfl (fun K hK => ?_) AllReadyH.nil))
      · go_simp
        refine HJ.out _ _ _ _ _ _ _ _ _ _ _ (DfaIn.frame HAD.out (F' := fun q => q < w.heap.size + 2) (fun _ h => h) (fun q hq _ => HCUR.out.block q (Nat.lt_of_lt_of_le hq Ha.out.le))) (DfaIn.frame HBD.out (F' := fun q => q < w.heap.size + 2) (fun _ h => h) (fun q hq _ => HCUR.out.block q (Nat.lt_of_lt_of_le hq Hb.out.le))) (fun q hq => Nat.lt_of_lt_of_le (Nat.lt_of_lt_of_le hq Ha.out.le) HCUR.out.size) (fun q hq => Nat.lt_of_lt_of_le (Nat.lt_of_lt_of_le hq Hb.out.le) HCUR.out.size) (HT.out _ (HB.out.trans (HCUR.out.mono HB.out.size))) _ _ _ _ ?_
        intro v w3 hp
        obtain ⟨x1, c1, x2, c2, x3, c3, he, hd, hb⟩ := hp.open'
        rw [← HDX.out, ← HEX.out] at he
        rw [← HDX.out] at hd
        cases he
        have HD := hid hd
        have HPB' := hid hb
        have HCUR := hid (HCUR.out.trans (hb.mono HCUR.out.size))
        have HS := hid (HKP.out _ HCUR.out)
        refine hK.out _ _ HS.out (fun _ => ?_)
        clear hK K hb hd hp
        simp only [Act.put, List.getElem_toArray, List.getElem_cons_zero, List.getElem_cons_succ, List.setIfInBounds_toArray, List.set_cons_zero, List.set_cons_succ]
        refine wpAnyH_take (i := 7) (v := .tuple #[.agg #[.slice x1 dx.cls.length c1, .slice x2 dx.next.length c2, .slice x3 dx.fin.length c3], .int .i64 ex]) rfl (by kernel_rfl) (by kernel_rfl) (by kernel_rfl) (fun _ _ _ h => h) (Or.inl ⟨by rfl, fun w hS => by go_simp⟩) HS.out ?_
        simp only [Act.put, List.getElem_toArray, List.getElem_cons_zero, List.getElem_cons_succ, List.setIfInBounds_toArray, List.set_cons_zero, List.set_cons_succ]
        refine wpAnyH_take (i := 8) (v := .agg #[.slice x1 dx.cls.length c1, .slice x2 dx.next.length c2, .slice x3 dx.fin.length c3]) rfl (by kernel_rfl) (by kernel_rfl) (by kernel_rfl) (fun _ _ _ h => h) (Or.inl ⟨by rfl, fun w hS => by go_simp⟩) HS.out ?_
        simp only [Act.put, List.getElem_toArray, List.getElem_cons_zero, List.getElem_cons_succ, List.setIfInBounds_toArray, List.set_cons_zero, List.set_cons_succ]
        refine wpAnyH_take (i := 9) (v := .int .i64 ex) rfl (by kernel_rfl) (by kernel_rfl) (by kernel_rfl) (fun _ _ _ h => h) (Or.inl ⟨by rfl, fun w hS => by go_simp⟩) HS.out ?_
        simp only [Act.put, List.getElem_toArray, List.getElem_cons_zero, List.getElem_cons_succ, List.setIfInBounds_toArray, List.set_cons_zero, List.set_cons_succ]
        refine wpAnyH_ready (rs := [10]) (by kernel_rfl) (by simp) (AllReadyH.cons rfl (fun K hK => ?_) AllReadyH.nil)
        go_simp
        have hzr : wr.heap.size ≤ w3.heap.size := HCUR.out.size
        have HPB := hid (show (w3.alloc (.cells #[.slice none 0 0, .slice none 0 0, .slice none 0 0] 30)).heap[w3.heap.size]? = some (.cells #[.slice none 0 0, .slice none 0 0, .slice none 0 0] 30 (0, 0)) from heap_alloc_new _ _)
        have HPK := hid (fun (g : Nat) (_ : wr.heap.size ≤ g) (h2 : g < w3.heap.size) => (show (w3.alloc (.cells #[.slice none 0 0, .slice none 0 0, .slice none 0 0] 30)).heap[g]? = w3.heap[g]? from alloc_old h2))
        have HPZ := hid (show w3.heap.size ≤ (w3.alloc (.cells #[.slice none 0 0, .slice none 0 0, .slice none 0 0] 30)).heap.size by simp)
        have HCUR := hid (show Below wr.heap.size wr (w3.alloc (.cells #[.slice none 0 0, .slice none 0 0, .slice none 0 0] 30)) from HCUR.out.alloc hzr _)
        have HS := hid (HKP.out _ HCUR.out)
        refine hK.out _ _ HS.out (fun _ => ?_)
        clear hK K
        obtain ⟨P, hP⟩ : ∃ P, P = w3.heap.size := ⟨_, rfl⟩
        have HPN := hid (fun (g : Nat) (_ : wr.heap.size ≤ g) (h2 : g < w3.heap.size) => (show g ≠ P by rw [hP]; exact Nat.ne_of_lt h2))
        have HPL := hid (show wr.heap.size ≤ P by rw [hP]; exact hzr)
        generalize w3.alloc (.cells #[.slice none 0 0, .slice none 0 0, .slice none 0 0] 30) = w4 at *
        have HPB : Hid (w4.heap[P]? = some (.cells #[.slice none 0 0, .slice none 0 0, .slice none 0 0] 30 (0, 0))) := hid (by rw [hP]; exact HPB.out)
        rw [← hP]
        clear hP hzr
        have d0 := cell_blk (i := 0) HPB.out rfl
        have d1 := cell_blk (i := 1) HPB.out rfl
        have d2 := cell_blk (i := 2) HPB.out rfl
        have d3 := free_box (i := 0) HPB.out
        have d4 := free_box (i := 1) HPB.out
        have d5 := free_box (i := 2) HPB.out
        refine wpAnyH_ready (rs := [11]) (by kernel_rfl) (by simp) (AllReadyH.cons rfl (fun K hK => ?_) AllReadyH.nil)
        go_simp
        have hpb := three_all (.slice x1 dx.cls.length c1) (.slice x2 dx.next.length c2) (.slice x3 dx.fin.length c3) HPB.out
        have HCUR := hid (show Below wr.heap.size wr (((w4.setCell ⟨P, 0, none⟩ (.slice x1 dx.cls.length c1)).setCell ⟨P, 1, none⟩ (.slice x2 dx.next.length c2)).setCell ⟨P, 2, none⟩ (.slice x3 dx.fin.length c3)) from ((HCUR.out.setCell HPL.out _).setCell HPL.out _).setCell HPL.out _)
        have HS := hid (HKP.out _ HCUR.out)
        refine hK.out _ _ HS.out (fun _ => ?_)
        clear hK K d0 d1 d2 d3 d4 d5
        have HBO := hid (ABox.born HD.out (W := (((w4.setCell ⟨P, 0, none⟩ (.slice x1 dx.cls.length c1)).setCell ⟨P, 1, none⟩ (.slice x2 dx.next.length c2)).setCell ⟨P, 2, none⟩ (.slice x3 dx.fin.length c3))) (fun g h1 h2 => (heap_setCell_other _ _ _ _ (HPN.out g h1 h2)).trans ((heap_setCell_other _ _ _ _ (HPN.out g h1 h2)).trans ((heap_setCell_other _ _ _ _ (HPN.out g h1 h2)).trans (HPK.out g h1 h2)))) (by simpa using HPZ.out) hpb)
        clear hpb
        generalize (((w4.setCell ⟨P, 0, none⟩ (.slice x1 dx.cls.length c1)).setCell ⟨P, 1, none⟩ (.slice x2 dx.next.length c2)).setCell ⟨P, 2, none⟩ (.slice x3 dx.fin.length c3)) = w5 at *
        refine wpAnyH_take (i := 12) (v := .int .i64 ex) rfl (by kernel_rfl) (by kernel_rfl) (by kernel_rfl) (fun _ _ _ h => h) (Or.inl ⟨by rfl, fun w hS => by go_simp⟩) HS.out ?_
        simp only [Act.put, List.getElem_toArray, List.getElem_cons_zero, List.getElem_cons_succ, List.setIfInBounds_toArray, List.set_cons_zero, List.set_cons_succ]
        refine wpAnyH_done (by kernel_rfl) ?_ _
        have Ha := hid (Ha.out.below (HCUR.out.mono Ha.out.le))
        have Hb := hid (Hb.out.below (HCUR.out.mono Hb.out.le))
        have HBl := hid (HBl.out.trans (HCUR.out.mono HBl.out.size))
        have HB := hid (HB.out.trans (HCUR.out.mono HB.out.size))
        have Hx := hid HBO.out
        clear HBO
        obtain ⟨p00, p01, p02⟩ := Ha.out.cells
        obtain ⟨p10, p11, p12⟩ := Hb.out.cells
        have hc := joinR_any (how := k) HK4.out Ha.out.dfa Hb.out.dfa Ha.out.fits Hb.out.fits
        rw [HWF.out] at hc
        go_wp2_with fail
        refine hc.mono ?_
        clear hc p00 p01 p02 p10 p11 p12
        rintro e w6 hp
        obtain ⟨x1', c1', x2', c2', x3', c3', he, hd, hb⟩ := hp.open'
        rw [← HDX.out, ← HEX.out] at he
        rw [← HDX.out] at hd
        cases he
        have HD := hid hd
        have Ha := hid (Ha.out.below (hb.mono Ha.out.le))
        have Hb := hid (Hb.out.below (hb.mono Hb.out.le))
        have Hx := hid (Hx.out.below (hb.mono Hx.out.le))
        have HB := hid (HB.out.trans (hb.mono HB.out.size))
        have HBl := hid (HBl.out.trans (hb.mono HBl.out.size))
        clear hd hb hp
        go_upto_region 9 with fail
        have hA := ABox.new HD.out
        generalize hW : w6.alloc (.cells #[.slice x1' dx.cls.length c1', .slice x2' dx.next.length c2', .slice x3' dx.fin.length c3'] 30) = v6 at *
        have hb : Below w6.heap.size w6 v6 := by rw [← hW]; exact (Below.refl _ _).alloc (Nat.le_refl _) _
        have Hy := hid hA
        have Ha := hid (Ha.out.below (hb.mono Ha.out.le))
        have Hb := hid (Hb.out.below (hb.mono Hb.out.le))
        have Hx := hid (Hx.out.below (hb.mono Hx.out.le))
        have HB := hid (HB.out.trans (hb.mono HB.out.size))
        have HBl := hid (HBl.out.trans (hb.mono HBl.out.size))
        clear hW HD hA hb
        obtain ⟨p00, p01, p02⟩ := Hx.out.cells
        obtain ⟨p10, p11, p12⟩ := Hy.out.cells
        have hc := dsame_yes Hx.out.dfa Hy.out.dfa Hx.out.fits Hy.out.fits
        go_wp2_with fail
        refine hc.mono ?_
        clear hc p00 p01 p02 p10 p11 p12
        rintro e w7 ⟨rfl, hb⟩
        have Ha := hid (Ha.out.below (hb.mono Ha.out.le))
        have Hb := hid (Hb.out.below (hb.mono Hb.out.le))
        have Hx := hid (Hx.out.below (hb.mono Hx.out.le))
        have Hy := hid (Hy.out.below (hb.mono Hy.out.le))
        have HB := hid (HB.out.trans (hb.mono HB.out.size))
        have HBl := hid (HBl.out.trans (hb.mono HBl.out.size))
        clear hb HDX HEX HWF HX HJ
        go_wp2_with fail
        refine And.intro ?_ ?_
        · exact ⟨k + 1, by omega, by go_num, HBl.out⟩
        · simp [intOf]; omega
      · go_simp
        have HPB := hid (show ((wr.alloc (.cells #[.slice none 0 0, .slice none 0 0, .slice none 0 0] 30)).drew).heap[wr.heap.size]? = some (.cells #[.slice none 0 0, .slice none 0 0, .slice none 0 0] 30 (0, 0)) from heap_alloc_new _ _)
        have HZB := hid (show ((wr.alloc (.cells #[.slice none 0 0, .slice none 0 0, .slice none 0 0] 30)).drew).heap.size = wr.heap.size + 1 by simp)
        have HCUR := hid (show Below wr.heap.size wr ((wr.alloc (.cells #[.slice none 0 0, .slice none 0 0, .slice none 0 0] 30)).drew) from ((Below.refl _ _).alloc (Nat.le_refl _) _).drew)
        have HS := hid (HKP.out _ HCUR.out)
        refine hK.out _ _ HS.out (fun _ => ?_)
        clear hK K
        generalize (wr.alloc (.cells #[.slice none 0 0, .slice none 0 0, .slice none 0 0] 30)).drew = wb at *
        refine wpAnyH_ready (rs := [6]) (by kernel_rfl) (by simp) (AllReadyH.cons rfl (fun K hK => ?_) AllReadyH.nil)
        go_simp
        refine HJ.out _ _ _ _ _ _ _ _ _ _ _ (DfaIn.frame HAD.out (F' := fun q => q < w.heap.size + 2) (fun _ h => h) (fun q hq _ => HCUR.out.block q (Nat.lt_of_lt_of_le hq Ha.out.le))) (DfaIn.frame HBD.out (F' := fun q => q < w.heap.size + 2) (fun _ h => h) (fun q hq _ => HCUR.out.block q (Nat.lt_of_lt_of_le hq Hb.out.le))) (fun q hq => Nat.lt_of_lt_of_le (Nat.lt_of_lt_of_le hq Ha.out.le) HCUR.out.size) (fun q hq => Nat.lt_of_lt_of_le (Nat.lt_of_lt_of_le hq Hb.out.le) HCUR.out.size) (HT.out _ (HB.out.trans (HCUR.out.mono HB.out.size))) _ _ _ _ ?_
        intro v w3 hp
        obtain ⟨x1, c1, x2, c2, x3, c3, he, hd, hb⟩ := hp.open'
        rw [← HDX.out, ← HEX.out] at he
        rw [← HDX.out] at hd
        cases he
        have HD := hid hd
        have HPB' := hid hb
        have HCUR := hid (HCUR.out.trans (hb.mono HCUR.out.size))
        have HS := hid (HKP.out _ HCUR.out)
        refine hK.out _ _ HS.out (fun _ => ?_)
        clear hK K hb hd hp
        simp only [Act.put, List.getElem_toArray, List.getElem_cons_zero, List.getElem_cons_succ, List.setIfInBounds_toArray, List.set_cons_zero, List.set_cons_succ]
        refine wpAnyH_take (i := 7) (v := .tuple #[.agg #[.slice x1 dx.cls.length c1, .slice x2 dx.next.length c2, .slice x3 dx.fin.length c3], .int .i64 ex]) rfl (by kernel_rfl) (by kernel_rfl) (by kernel_rfl) (fun _ _ _ h => h) (Or.inl ⟨by rfl, fun w hS => by go_simp⟩) HS.out ?_
        simp only [Act.put, List.getElem_toArray, List.getElem_cons_zero, List.getElem_cons_succ, List.setIfInBounds_toArray, List.set_cons_zero, List.set_cons_succ]
        refine wpAnyH_take (i := 8) (v := .agg #[.slice x1 dx.cls.length c1, .slice x2 dx.next.length c2, .slice x3 dx.fin.length c3]) rfl (by kernel_rfl) (by kernel_rfl) (by kernel_rfl) (fun _ _ _ h => h) (Or.inl ⟨by rfl, fun w hS => by go_simp⟩) HS.out ?_
        simp only [Act.put, List.getElem_toArray, List.getElem_cons_zero, List.getElem_cons_succ, List.setIfInBounds_toArray, List.set_cons_zero, List.set_cons_succ]
        refine wpAnyH_take (i := 9) (v := .int .i64 ex) rfl (by kernel_rfl) (by kernel_rfl) (by kernel_rfl) (fun _ _ _ h => h) (Or.inl ⟨by rfl, fun w hS => by go_simp⟩) HS.out ?_
        simp only [Act.put, List.getElem_toArray, List.getElem_cons_zero, List.getElem_cons_succ, List.setIfInBounds_toArray, List.set_cons_zero, List.set_cons_succ]
        obtain ⟨P, hP⟩ : ∃ P, P = wr.heap.size := ⟨_, rfl⟩
        have HPB : Hid (w3.heap[P]? = some (.cells #[.slice none 0 0, .slice none 0 0, .slice none 0 0] 30 (0, 0))) := hid (by rw [hP]; exact (HPB'.out.block wr.heap.size (by rw [HZB.out]; omega)).trans HPB.out)
        have HPN := hid (fun (g : Nat) (h1 : wb.heap.size ≤ g) (_ : g < w3.heap.size) => (show g ≠ P by have := HZB.out; omega))
        have HPL := hid (show wr.heap.size ≤ P by rw [hP]; exact Nat.le_refl _)
        obtain ⟨w4, hw4⟩ : ∃ w4, w4 = w3 := ⟨_, rfl⟩
        have HPB : Hid (w4.heap[P]? = some (.cells #[.slice none 0 0, .slice none 0 0, .slice none 0 0] 30 (0, 0))) := hid (by rw [hw4]; exact HPB.out)
        have HPK := hid (fun (g : Nat) (_ : wb.heap.size ≤ g) (_ : g < w3.heap.size) => (show w4.heap[g]? = w3.heap[g]? by rw [hw4]))
        have HPZ := hid (show w3.heap.size ≤ w4.heap.size by rw [hw4]; exact Nat.le_refl _)
        have HCUR : Hid (Below wr.heap.size wr w4) := hid (by rw [hw4]; exact HCUR.out)
        have HS := hid (HKP.out _ HCUR.out)
        rw [← hP, ← hw4]
        clear hP hw4
        have d0 := cell_blk (i := 0) HPB.out rfl
        have d1 := cell_blk (i := 1) HPB.out rfl
        have d2 := cell_blk (i := 2) HPB.out rfl
        have d3 := free_box (i := 0) HPB.out
        have d4 := free_box (i := 1) HPB.out
        have d5 := free_box (i := 2) HPB.out
        refine wpAnyH_ready (rs := [11]) (by kernel_rfl) (by simp) (AllReadyH.cons rfl (fun K hK => ?_) AllReadyH.nil)
        go_simp
        have hpb := three_all (.slice x1 dx.cls.length c1) (.slice x2 dx.next.length c2) (.slice x3 dx.fin.length c3) HPB.out
        have HCUR := hid (show Below wr.heap.size wr (((w4.setCell ⟨P, 0, none⟩ (.slice x1 dx.cls.length c1)).setCell ⟨P, 1, none⟩ (.slice x2 dx.next.length c2)).setCell ⟨P, 2, none⟩ (.slice x3 dx.fin.length c3)) from ((HCUR.out.setCell HPL.out _).setCell HPL.out _).setCell HPL.out _)
        have HS := hid (HKP.out _ HCUR.out)
        refine hK.out _ _ HS.out (fun _ => ?_)
        clear hK K d0 d1 d2 d3 d4 d5
        have HBO := hid (ABox.born HD.out (W := (((w4.setCell ⟨P, 0, none⟩ (.slice x1 dx.cls.length c1)).setCell ⟨P, 1, none⟩ (.slice x2 dx.next.length c2)).setCell ⟨P, 2, none⟩ (.slice x3 dx.fin.length c3))) (fun g h1 h2 => (heap_setCell_other _ _ _ _ (HPN.out g h1 h2)).trans ((heap_setCell_other _ _ _ _ (HPN.out g h1 h2)).trans ((heap_setCell_other _ _ _ _ (HPN.out g h1 h2)).trans (HPK.out g h1 h2)))) (by simpa using HPZ.out) hpb)
        clear hpb
        generalize (((w4.setCell ⟨P, 0, none⟩ (.slice x1 dx.cls.length c1)).setCell ⟨P, 1, none⟩ (.slice x2 dx.next.length c2)).setCell ⟨P, 2, none⟩ (.slice x3 dx.fin.length c3)) = w5 at *
        refine wpAnyH_take (i := 12) (v := .int .i64 ex) rfl (by kernel_rfl) (by kernel_rfl) (by kernel_rfl) (fun _ _ _ h => h) (Or.inl ⟨by rfl, fun w hS => by go_simp⟩) HS.out ?_
        simp only [Act.put, List.getElem_toArray, List.getElem_cons_zero, List.getElem_cons_succ, List.setIfInBounds_toArray, List.set_cons_zero, List.set_cons_succ]
        refine wpAnyH_done (by kernel_rfl) ?_ _
        have Ha := hid (Ha.out.below (HCUR.out.mono Ha.out.le))
        have Hb := hid (Hb.out.below (HCUR.out.mono Hb.out.le))
        have HBl := hid (HBl.out.trans (HCUR.out.mono HBl.out.size))
        have HB := hid (HB.out.trans (HCUR.out.mono HB.out.size))
        have Hx := hid HBO.out
        clear HBO
        obtain ⟨p00, p01, p02⟩ := Ha.out.cells
        obtain ⟨p10, p11, p12⟩ := Hb.out.cells
        have hc := joinR_any (how := k) HK4.out Ha.out.dfa Hb.out.dfa Ha.out.fits Hb.out.fits
        rw [HWF.out] at hc
        go_wp2_with fail
        refine hc.mono ?_
        clear hc p00 p01 p02 p10 p11 p12
        rintro e w6 hp
        obtain ⟨x1', c1', x2', c2', x3', c3', he, hd, hb⟩ := hp.open'
        rw [← HDX.out, ← HEX.out] at he
        rw [← HDX.out] at hd
        cases he
        have HD := hid hd
        have Ha := hid (Ha.out.below (hb.mono Ha.out.le))
        have Hb := hid (Hb.out.below (hb.mono Hb.out.le))
        have Hx := hid (Hx.out.below (hb.mono Hx.out.le))
        have HB := hid (HB.out.trans (hb.mono HB.out.size))
        have HBl := hid (HBl.out.trans (hb.mono HBl.out.size))
        clear hd hb hp
        go_upto_region 9 with fail
        have hA := ABox.new HD.out
        generalize hW : w6.alloc (.cells #[.slice x1' dx.cls.length c1', .slice x2' dx.next.length c2', .slice x3' dx.fin.length c3'] 30) = v6 at *
        have hb : Below w6.heap.size w6 v6 := by rw [← hW]; exact (Below.refl _ _).alloc (Nat.le_refl _) _
        have Hy := hid hA
        have Ha := hid (Ha.out.below (hb.mono Ha.out.le))
        have Hb := hid (Hb.out.below (hb.mono Hb.out.le))
        have Hx := hid (Hx.out.below (hb.mono Hx.out.le))
        have HB := hid (HB.out.trans (hb.mono HB.out.size))
        have HBl := hid (HBl.out.trans (hb.mono HBl.out.size))
        clear hW HD hA hb
        obtain ⟨p00, p01, p02⟩ := Hx.out.cells
        obtain ⟨p10, p11, p12⟩ := Hy.out.cells
        have hc := dsame_yes Hx.out.dfa Hy.out.dfa Hx.out.fits Hy.out.fits
        go_wp2_with fail
        refine hc.mono ?_
        clear hc p00 p01 p02 p10 p11 p12
        rintro e w7 ⟨rfl, hb⟩
        have Ha := hid (Ha.out.below (hb.mono Ha.out.le))
        have Hb := hid (Hb.out.below (hb.mono Hb.out.le))
        have Hx := hid (Hx.out.below (hb.mono Hx.out.le))
        have Hy := hid (Hy.out.below (hb.mono Hy.out.le))
        have HB := hid (HB.out.trans (hb.mono HB.out.size))
        have HBl := hid (HBl.out.trans (hb.mono HBl.out.size))
        clear hb HDX HEX HWF HX HJ
        go_wp2_with fail
        refine And.intro ?_ ?_
        · exact ⟨k + 1, by omega, by go_num, HBl.out⟩
        · simp [intOf]; omega
    · have hk4 : ¬ ((k : Int) < 4) := by omega
      clear hlt hk
      obtain ⟨dn, hdn⟩ : ∃ dn, dn = (outX (notM a)).1 := ⟨_, rfl⟩
      obtain ⟨en, hen⟩ : ∃ en, en = (outX (notM a)).2 := ⟨_, rfl⟩
      have HDN := hid hdn
      have HEN := hid hen
      clear hdn hen
      go_upto_region 11 with fail
      obtain ⟨p00, p01, p02⟩ := Ha.out.cells
      have hc := bnot_any Ha.out.dfa Ha.out.fits
      go_wp2_with fail
      refine hc.mono ?_
      clear hc p00 p01 p02
      rintro e w21 hp
      obtain ⟨x1, c1, x2, c2, x3, c3, he, hd, hb⟩ := hp.open'
      rw [← HDN.out, ← HEN.out] at he
      rw [← HDN.out] at hd
      cases he
      have HD := hid hd
      have Ha := hid (Ha.out.below (hb.mono Ha.out.le))
      have HB := hid (HB.out.trans (hb.mono HB.out.size))
      clear hd hb hp
      go_upto_region 12 with fail
      have hA := ABox.new HD.out
      generalize hW : w21.alloc (.cells #[.slice x1 dn.cls.length c1, .slice x2 dn.next.length c2, .slice x3 dn.fin.length c3] 30) = v21 at *
      have hb : Below w21.heap.size w21 v21 := by rw [← hW]; exact (Below.refl _ _).alloc (Nat.le_refl _) _
      have Hx := hid hA
      have Ha := hid (Ha.out.below (hb.mono Ha.out.le))
      have HB := hid (HB.out.trans (hb.mono HB.out.size))
      clear hW HD hA hb
      obtain ⟨p00, p01, p02⟩ := Ha.out.cells
      have hc := notR_out Ha.out.dfa Ha.out.fits
      go_wp2_with fail
      refine hc.mono ?_
      clear hc p00 p01 p02
      rintro e w22 hp
      obtain ⟨x1, c1, x2, c2, x3, c3, he, hd, hb⟩ := hp.again
      rw [← HDN.out, ← HEN.out] at he
      rw [← HDN.out] at hd
      cases he
      have HD := hid hd
      have Ha := hid (Ha.out.below (hb.mono Ha.out.le))
      have Hx := hid (Hx.out.below (hb.mono Hx.out.le))
      have HB := hid (HB.out.trans (hb.mono HB.out.size))
      clear hd hb hp
      go_upto_region 13 with fail
      have hA := ABox.new' HD.out
      generalize hW : w22.alloc (.cells #[.slice x1 dn.cls.length c1, .slice x2 dn.next.length c2, .slice x3 dn.fin.length c3] 30) = v22 at *
      have hb : Below w22.heap.size w22 v22 := by rw [← hW]; exact (Below.refl _ _).alloc (Nat.le_refl _) _
      have Hy := hid hA
      have Ha := hid (Ha.out.below (hb.mono Ha.out.le))
      have Hx := hid (Hx.out.below (hb.mono Hx.out.le))
      have HB := hid (HB.out.trans (hb.mono HB.out.size))
      clear hW HD hA hb
      have haw := awake12_any _ (HT.out _ HB.out)
      go_wp2_with fail
      refine haw.mono ?_
      clear haw
      rintro e w23 ⟨rfl, hb⟩
      have Ha := hid (Ha.out.below (hb.mono Ha.out.le))
      have Hx := hid (Hx.out.below (hb.mono Hx.out.le))
      have Hy := hid (Hy.out.below (hb.mono Hy.out.le))
      have HB := hid (HB.out.trans (hb.mono HB.out.size))
      clear hb
      obtain ⟨p00, p01, p02⟩ := Hx.out.cells
      obtain ⟨p10, p11, p12⟩ := Hy.out.cells
      have hc := dsame_yes Hx.out.dfa Hy.out.dfa Hx.out.fits Hy.out.fits
      go_wp2_with fail
      refine hc.mono ?_
      clear hc p00 p01 p02 p10 p11 p12
      rintro e w24 ⟨rfl, hb⟩
      have Ha := hid (Ha.out.below (hb.mono Ha.out.le))
      have Hx := hid (Hx.out.below (hb.mono Hx.out.le))
      have Hy := hid (Hy.out.below (hb.mono Hy.out.le))
      have HB := hid (HB.out.trans (hb.mono HB.out.size))
      clear hb
      go_wp2_with fail
      go_ret
      exact ⟨rfl, HB.out⟩
/-- the walk of BoolsJoin -/
theorem bjoin_walk {F G : Nat → Prop} {w : World} {a1 a2 a3 b1 b2 b3 : Value} {a b : Dfa} (ha : DfaIn F w a1 a2 a3 a) (hF : ∀ g, F g → g < w.heap.size) (hb : DfaIn G w b1 b2 b3 b) (hG : ∀ g, G g → g < w.heap.size) (hT : Tab w) :
    Calls Tryd.prog 8 #[.agg #[a1, a2, a3], .agg #[b1, b2, b3]] w (AwPost w) := bjoin_go ha hb hF hG hT
end Go.Proofs.YtfjomnhdmkbkiaaDoor.Im
