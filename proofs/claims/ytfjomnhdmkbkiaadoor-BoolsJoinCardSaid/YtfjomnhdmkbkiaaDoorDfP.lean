/-
  Rows of edges of the call's own; the contracts of the maker's method edge, and of nfa.Text.
-/
import Derived.Test.YtfjomnhdmkbkiaaDoorDfN
import Derived.Deep.RegionLaw
import Derived.Test.YtfjomnhdmkbkiaaDoorDfM
namespace Go.Proofs.YtfjomnhdmkbkiaaDoor.Im
open Go.RowKit Go.Lib

def flatE (es : List Edge) : List Value := es.flatMap fun e => e.cs.toList
theorem flatE_snoc (es : List Edge) (e : Edge) : flatE (es ++ [e]) = flatE es ++ e.cs.toList := by unfold flatE; rw [List.flatMap_append]; simp
theorem flatE_cons (e : Edge) (es : List Edge) : flatE (e :: es) = .int .i64 e.fr :: .int .i64 e.dst :: .int .u64 e.st.a :: .int .u64 e.st.b :: .int .u64 e.st.c :: .int .u64 e.st.d :: flatE es := rfl
theorem flatE_get (i : Nat) (hi : i < 6) : ∀ (es : List Edge) (j : Nat) (h : j < es.length), (flatE es)[j * 6 + i]? = es[j].ls[i]?
  | [], _, h => by simp at h
  | e :: es, 0, _ => by
    rw [flatE_cons, Nat.zero_mul, Nat.zero_add]
    obtain rfl | rfl | rfl | rfl | rfl | rfl : i = 0 ∨ i = 1 ∨ i = 2 ∨ i = 3 ∨ i = 4 ∨ i = 5 := by omega
    all_goals rfl
  | e :: es, j + 1, h => by
    rw [flatE_cons, show (j + 1) * 6 + i = (j * 6 + i) + 1 + 1 + 1 + 1 + 1 + 1 by omega]
    simp only [List.getElem?_cons_succ, List.getElem_cons_succ]
    exact flatE_get i hi es j (by simpa using h)
abbrev OwnEdges (w : World) (base : Nat) (v : Value) (es : List Edge) : Prop := w.ownsRow base 67 6 v es.length (flatE es)
theorem edges_of_own {w : World} {base : Nat} {v : Value} {es : List Edge} (h : OwnEdges w base v es) (hm : es.length ≤ maxLen) : EdgesIn (fun g => base ≤ g ∧ g < w.heap.size) w v es := by
  obtain ⟨ad, cap, rfl⟩ := own_shape h
  refine ⟨ad, cap, rfl, hm, fun hl => ?_⟩
  rcases h.2 with ⟨_, h0⟩ | ⟨g, cap', cur, e, hb, hg, _⟩
  · exact absurd (List.eq_nil_of_length_eq_zero h0) hl
  · cases e
    refine ⟨g, 0, rfl, ⟨hb, lt_of_heap hg⟩, fun i hi j hj => ?_⟩
    have hc := h.cellAt (i * 6 + j) (by omega)
    rw [flatE_get j hj es i hi] at hc
    rw [Nat.zero_add, hc]
    have : j < es[i].ls.length := hj
    exact ⟨_, List.getElem?_eq_getElem this, List.getElem?_eq_getElem this⟩
theorem infoEdge : (Tryd.prog.info? 67).map (fun i => (i.zero, i.size, i.bytes)) = some (some (.agg #[.int .i64 0, .int .i64 0, .int .u64 0, .int .u64 0, .int .u64 0, .int .u64 0]), 6, 48) := by kernel_rfl
theorem edge_mk {w w1 : World} {m base n : Nat} {v x : Value} {xs : List Value} {a b : Obj} (hm : w.heap[m]? = some (.cells #[x] 120 (0, 0))) (ho : w.ownsRow base 67 6 v n xs) (hg : ((w.alloc a).alloc b).drew.grownBy w1 v.ownBlock) : w1.heap[m]? = some (.cells #[x] 120 (0, 0)) := by
  have hl := lt_of_heap hm
  refine (hg.block m (by simp; omega) fun e => ?_).trans ((alloc_old (by simp; omega)).trans ((alloc_old hl).trans hm))
  obtain ⟨cur, hc⟩ := own_tag ho e.symm
  rw [hm] at hc
  cases hc
theorem own_set6 {w : World} {base e n P i : Nat} {v u : Value} {xs : List Value} {cs : Array Value} {T : TypeId} (h : w.ownsRow base e 6 v n xs) (hP : w.heap[P]? = some (.cells cs T (0, 0))) (hT : T ≠ e) : (w.setCell ⟨P, i, none⟩ u).ownsRow base e 6 v n xs := own_set h hP hT
def EdgePost (w : World) (base m : Nat) (es : List Edge) (e : Ending) (w' : World) : Prop :=
  ∃ v', e = .returned (.tuple #[]) ∧ w'.heap[m]? = some (.cells #[v'] 120 (0, 0)) ∧ OwnEdges w' base v' es ∧ Below base w w' ∧ w.heap.size ≤ w'.heap.size
set_option maxRecDepth 100000 in
set_option maxHeartbeats 4000000 in
theorem edge_any {w : World} {base m : Nat} {v : Value} {es : List Edge} (hm : w.heap[m]? = some (.cells #[v] 120 (0, 0))) (ho : OwnEdges w base v es) (hb : base ≤ m) (hlen : es.length ≤ 100000) (e : Edge) :
    Calls Tryd.prog 85 #[.pointer (some ⟨m, 0, none⟩), .int .i64 e.fr, .int .i64 e.dst, e.st.v] w (EdgePost w base m (es ++ [e])) := by
  have hml := lt_of_heap hm
  have HM := hid hm
  have HO := hid ho
  obtain ⟨ad, cap, rfl⟩ := own_shape ho
  have c0 : w.cell? ⟨m, 0, none⟩ = some (.slice ad es.length cap) := cell_blk hm rfl
  have f0 : w.frozen? ⟨m, 0, none⟩ = false := free_box hm
  obtain ⟨i0, hi, hz0, hz1, hz2⟩ := info_parts infoEdge
  have HI := hid hi
  have HZ := hid (And.intro hz0 (And.intro hz1 hz2))
  clear hi hz0 hz1 hz2 hm ho
  go_enter Tryd.func85, Tryd.ntmps85
  go_wp2
  go_region_law (refine step_append_lies _ rfl _ _ 23 rfl base 67 i0 _ 6 48 Tryd.underlying23 HI.out HZ.out.1 HZ.out.2.1 HZ.out.2.2 rfl (by decide) (.slice ad es.length cap) es.length (flatE es) (by simp [Act.eval]) (own_drew ((HO.out.alloc _).alloc _)) ⟨w.heap.size + 1, 0, none⟩ 1 1 e.cs.toList (by simp [Act.eval]) rfl (World.news_of_block (newB w _ _)) (by simp [Value.oneCell']) (by omega) (by unfold maxLen; omega) (by omega) (by simp; omega) _ rfl ?_; intro g cap' w1 ho1 hg1 hat1 hlt1; have HM1 := hid (edge_mk HM.out HO.out hg1); have e0 := cell_blk (i := 0) HM1.out rfl; have g0 := free_box (i := 0) HM1.out; have HO1 := hid ho1; have HG1 := hid hg1; clear ho1 hg1 hat1)
  all_goals
    go_wp2
    have hz1 := HG1.out.size
    have hbb : Below base w w1 := ((((Below.refl base w).alloc (by omega) _).alloc (by simp; omega) _).drew).grown HG1.out (by simp; omega) (fun q hq => (HO.out.lt q hq).1)
    refine bodyPost_ret (results_none rfl _ _ _) rfl ?_
    exact ⟨_, rfl, box_set _ HM1.out, by unfold OwnEdges; rw [List.length_append, flatE_snoc]; exact own_set6 HO1.out HM1.out (by decide), hbb.setCell hb _, by rw [World.size_setCell]; exact Nat.le_trans (by simp; omega) hz1⟩
end Go.Proofs.YtfjomnhdmkbkiaaDoor.Im
