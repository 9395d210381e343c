/-
  For dfa.Back: what stands in memory between two rounds of its outer loop; how the call is left.
-/
import Derived.Test.YtfjomnhdmkbkiaaDoorDgH
import Derived.Test.YtfjomnhdmkbkiaaDoorDgB
namespace Go.Proofs.YtfjomnhdmkbkiaaDoor.Im
open Go.RowKit Go.Lib Go.Maps Go.Shelf

structure BPar where
  w : World
  d : Dfa
  p : List Se
  ad1 : Option Addr
  cp1 : Nat
  g2 : Nat
  o2 : Nat
  cp2 : Nat
  ad3 : Option Addr
  cp3 : Nat
  adp : Option Addr
  cpp : Nat
  S : Nat
  C : Nat
abbrev BPar.ls (q : BPar) : Array Value := #[.slice q.ad1 q.d.cls.length q.cp1, .slice (some ⟨q.g2, q.o2, none⟩) q.d.next.length q.cp2, .slice q.ad3 q.d.fin.length q.cp3]
structure BPar.Ok (q : BPar) : Prop where
  s : q.w.heap.size + 2 ≤ q.S
  c : q.S < q.C
  nl : q.d.next.length ≤ 1024
  fl : q.d.fin.length = q.d.next.length
  pl : q.p.length ≤ 256
  rows : ∀ row ∈ q.d.next, row.length = q.p.length ∧ ∀ s ∈ row, 0 ≤ s ∧ s < (q.d.next.length : Int)
  dfa : DfaIn (fun g => g < q.w.heap.size) q.w (.slice q.ad1 q.d.cls.length q.cp1) (.slice (some ⟨q.g2, q.o2, none⟩) q.d.next.length q.cp2) (.slice q.ad3 q.d.fin.length q.cp3) q.d
structure BBase (q : BPar) (W : World) (Ds : List Nat) (ends : List Int) (es : List Edge) (ev xv : Value) : Prop where
  arg : W.heap[q.w.heap.size]? = some (.cells q.ls 30 (0, 0))
  res : W.heap[q.w.heap.size + 1]? = some (.cells #[.int .i64 0, .slice none 0 0, .slice none 0 0, .slice none 0 0] 25 (0, 0))
  below : Below q.w.heap.size q.w W
  sets : SetsIn (fun g => q.w.heap.size + 2 ≤ g ∧ g < q.S) W (.slice q.adp q.p.length q.cpp) q.p
  st : W.heap[q.S]? = some (.cells #[.int .i64 0] 3 (0, 0))
  nb : W.heap[q.C]? = some (.cells #[.int .i64 q.d.next.length, .slice (some ⟨q.S, 0, none⟩) 1 1, ev, xv] 25 (0, 0))
  ends : OwnInts W q.C ev ends
  eds : OwnEdges W q.C xv es
  nodup : Ds.Nodup
  ds : ∀ D ∈ Ds, q.C < D ∧ W.heap[D]? = some (.deferred (some []))
theorem BBase.below' {q : BPar} {W W' : World} {Ds : List Nat} {ends : List Int} {es : List Edge} {ev xv : Value} (h : BBase q W Ds ends es ev xv) (k : Below W.heap.size W W') : BBase q W' Ds ends es ev xv := by
  have hz := h.below.size
  exact ⟨(k.block _ (lt_of_heap h.arg)).trans h.arg, (k.block _ (lt_of_heap h.res)).trans h.res, h.below.trans (k.mono hz), SetsIn.frame h.sets (fun _ h => h) (fun g _ hg => k.block g hg), (k.block _ (lt_of_heap h.st)).trans h.st, (k.block _ (lt_of_heap h.nb)).trans h.nb, own_later h.ends k, own_later h.eds k, h.nodup, fun D hD => ⟨(h.ds D hD).1, (k.block _ (lt_of_heap (h.ds D hD).2)).trans (h.ds D hD).2⟩⟩
theorem BBase.mark {q : BPar} {W : World} {Ds : List Nat} {ends : List Int} {es : List Edge} {ev xv : Value} {D : Nat} (h : BBase q W Ds ends es ev xv) (hD : q.C < D) (hn : D ∉ Ds) (hd : W.heap[D]? = some (.deferred (some []))) : BBase q W (D :: Ds) ends es ev xv :=
  ⟨h.arg, h.res, h.below, h.sets, h.st, h.nb, h.ends, h.eds, List.nodup_cons.2 ⟨hn, h.nodup⟩, fun E hE => by
    rcases List.mem_cons.1 hE with rfl | hE
    · exact ⟨hD, hd⟩
    · exact h.ds E hE⟩
theorem own_apart2 {w : World} {base base' e e' k k' n n' : Nat} {v v' : Value} {xs xs' : List Value} (h : w.ownsRow base e k v n xs) (h' : w.ownsRow base' e' k' v' n' xs') (he : e ≠ e') : ∀ g, v.ownBlock = some g → v'.ownBlock ≠ some g := fun g hg hg' => by
  obtain ⟨c, hc⟩ := own_tag h hg
  obtain ⟨c', hc'⟩ := own_tag h' hg'
  rw [hc] at hc'; cases hc'; exact he rfl
theorem four_set2 {w : World} {P : Nat} {a b c d : Value} {T : TypeId} (v : Value) (h : w.heap[P]? = some (.cells #[a, b, c, d] T (0, 0))) : (w.setCell ⟨P, 2, none⟩ v).heap[P]? = some (.cells #[a, b, v, d] T (0, 0)) := by rw [heap_setCell_same _ _ _ _ _ _ h]; rfl
theorem four_set3 {w : World} {P : Nat} {a b c d : Value} {T : TypeId} (v : Value) (h : w.heap[P]? = some (.cells #[a, b, c, d] T (0, 0))) : (w.setCell ⟨P, 3, none⟩ v).heap[P]? = some (.cells #[a, b, c, v] T (0, 0)) := by rw [heap_setCell_same _ _ _ _ _ _ h]; rfl
/-- one of the two rows of the result has grown -/
theorem BBase.grown {q : BPar} {W W2 : World} {Ds : List Nat} {ends : List Int} {es : List Edge} {ev xv v v' : Value} {o : Obj} {e k : Nat} {xs : List Value} {i : Nat} (h : BBase q W Ds ends es ev xv) (_ : q.Ok) (hv : W.ownsRow q.C e k v xs.length xs ∨ ∃ n, W.ownsRow q.C e k v n xs) (he : e ≠ 25)
    (hg : (W.alloc o).grownBy W2 v.ownBlock) :
    (∀ g, g < W.heap.size → g ≠ q.C → v.ownBlock ≠ some g → (W2.setCell ⟨q.C, i, none⟩ v').heap[g]? = W.heap[g]?) ∧ W2.heap[q.C]? = W.heap[q.C]? ∧ W.heap.size < W2.heap.size := by
  obtain ⟨n, hv⟩ : ∃ n, W.ownsRow q.C e k v n xs := by
    rcases hv with hv | ⟨n, hv⟩
    · exact ⟨_, hv⟩
    · exact ⟨n, hv⟩
  have hnb : v.ownBlock ≠ some q.C := fun e' => by
    obtain ⟨cur, hc⟩ := own_tag hv e'
    rw [h.nb] at hc; cases hc; exact he rfl
  have htu : Turn (fun g => g = q.C ∨ v.ownBlock = some g) W (W2.setCell ⟨q.C, i, none⟩ v') := (((Turn.refl _ W).alloc o).grown hg (fun g e => .inr e)).setCell (.inl rfl) _
  refine ⟨fun g hg h3 h4 => htu.block g hg fun h5 => h5.elim h3 h4, ?_, ?_⟩
  · have := lt_of_heap h.nb
    exact (hg.block _ (by simp; omega) (fun e => hnb e.symm)).trans (alloc_old (lt_of_heap h.nb))
  · have := hg.size; simp at this; omega
theorem BBase.keep {q : BPar} {W W' : World} {Ds : List Nat} {ends ends' : List Int} {es es' : List Edge} {ev xv ev' xv' v : Value} {e k n : Nat} {xs : List Value} (h : BBase q W Ds ends es ev xv) (hq : q.Ok) (hv : W.ownsRow q.C e k v n xs)
    (hsame : ∀ g, g < W.heap.size → g ≠ q.C → v.ownBlock ≠ some g → W'.heap[g]? = W.heap[g]?) (hbw : Below q.w.heap.size q.w W')
    (hnb : W'.heap[q.C]? = some (.cells #[.int .i64 q.d.next.length, .slice (some ⟨q.S, 0, none⟩) 1 1, ev', xv'] 25 (0, 0))) (he : OwnInts W' q.C ev' ends') (hx : OwnEdges W' q.C xv' es') : BBase q W' Ds ends' es' ev' xv' := by
  have h1 := hq.s
  have h2 := hq.c
  have low : ∀ g, g < q.C → v.ownBlock ≠ some g := fun g hg e => by have := (own_lt hv e).1; omega
  have hc := lt_of_heap h.nb
  refine ⟨(hsame _ (lt_of_heap h.arg) (by omega) (low _ (by omega))).trans h.arg, (hsame _ (lt_of_heap h.res) (by omega) (low _ (by omega))).trans h.res, hbw, SetsIn.frame h.sets (fun _ h => h) (fun g hg hl => hsame g hl (by have := hg.2; omega) (low g (by have := hg.2; omega))), (hsame _ (lt_of_heap h.st) (by omega) (low _ (by omega))).trans h.st, hnb, he, hx, h.nodup, fun D hD => ⟨(h.ds D hD).1, (hsame D (lt_of_heap (h.ds D hD).2) (by have := (h.ds D hD).1; omega) (fun e => ?_)).trans (h.ds D hD).2⟩⟩
  obtain ⟨cur, hc⟩ := own_tag hv e
  rw [(h.ds D hD).2] at hc; cases hc
theorem BBase.addEnd {q : BPar} {W W2 : World} {Ds : List Nat} {ends : List Int} {es : List Edge} {ev xv ev' : Value} {o : Obj} {x : Int} (h : BBase q W Ds ends es ev xv) (hq : q.Ok)
    (hown : W2.ownsRow q.C 3 1 ev' (ends.length + 1) (ends.map iV ++ [iV x])) (hg : (W.alloc o).grownBy W2 ev.ownBlock) : BBase q (W2.setCell ⟨q.C, 2, none⟩ ev') Ds (ends ++ [x]) es ev' xv := by
  obtain ⟨h1, h2, h3⟩ := h.grown (i := 2) (v' := ev') hq (.inr ⟨_, h.ends⟩) (by decide) hg
  have hnb2 := h2.trans h.nb
  refine h.keep hq h.ends h1 ?_ (four_set2 _ hnb2) ?_ ?_
  · have hs := hq.s
    have hc := hq.c
    have hz := h.below.size
    have hl := lt_of_heap h.nb
    refine ((h.below.alloc hz o).grown hg (by simp; omega) (fun g e => ?_)).setCell (by simp; omega) _
    have := (own_lt h.ends e).1; omega
  · have := own_set (i := 2) (u := ev') hown hnb2 (by decide)
    unfold OwnInts
    rw [List.length_append, List.map_append]
    exact this
  · exact own_blk h.eds fun g e => h1 g (own_lt h.eds e).2 (fun e' => by
      obtain ⟨cur, hc⟩ := own_tag h.eds e
      rw [e', h.nb] at hc; cases hc) (own_apart2 h.eds h.ends (by decide) g e)
theorem BBase.addEdge {q : BPar} {W W2 : World} {Ds : List Nat} {ends : List Int} {es : List Edge} {ev xv xv' : Value} {o : Obj} {x : Edge} (h : BBase q W Ds ends es ev xv) (hq : q.Ok)
    (hown : W2.ownsRow q.C 67 6 xv' (es.length + 1) (flatE es ++ x.ls)) (hg : (W.alloc o).grownBy W2 xv.ownBlock) : BBase q (W2.setCell ⟨q.C, 3, none⟩ xv') Ds ends (es ++ [x]) ev xv' := by
  obtain ⟨h1, h2, h3⟩ := h.grown (i := 3) (v' := xv') hq (.inr ⟨_, h.eds⟩) (by decide) hg
  have hnb2 := h2.trans h.nb
  refine h.keep hq h.eds h1 ?_ (four_set3 _ hnb2) ?_ ?_
  · have hs := hq.s
    have hc := hq.c
    have hz := h.below.size
    have hl := lt_of_heap h.nb
    refine ((h.below.alloc hz o).grown hg (by simp; omega) (fun g e => ?_)).setCell (by simp; omega) _
    have := (own_lt h.eds e).1; omega
  · exact own_blk h.ends fun g e => h1 g (own_lt h.ends e).2 (fun e' => by
      obtain ⟨cur, hc⟩ := own_tag h.ends e
      rw [e', h.nb] at hc; cases hc) (own_apart2 h.ends h.eds (by decide) g e)
  · have := own_set (i := 3) (u := xv') hown hnb2 (by decide)
    unfold OwnEdges
    rw [List.length_append, flatE_snoc]
    exact this
structure BNum (q : BPar) (s : Nat) (ends : List Int) (es : List Edge) : Prop where
  le : s ≤ q.d.next.length
  elen : ends.length ≤ s
  xlen : es.length ≤ 65536
  hist : backFrom q.d q.p (q.d.next.length - s) s ends es = backFrom q.d q.p q.d.next.length 0 [] []
theorem BNum.bad {q : BPar} {s : Nat} {ends : List Int} {es : List Edge} (h : BNum q s ends es) (hs : s < q.d.next.length) (hb : 65536 < (es ++ edgesOf s (q.d.next.getD s []) q.p).length) : backFrom q.d q.p q.d.next.length 0 [] [] = .error 2 := by
  have h1 := h.hist
  rw [show q.d.next.length - s = (q.d.next.length - s - 1) + 1 by omega, backFrom, if_pos hb] at h1
  exact h1.symm
theorem BNum.good {q : BPar} {s : Nat} {ends : List Int} {es : List Edge} (h : BNum q s ends es) (hs : s < q.d.next.length) (hb : ¬ 65536 < (es ++ edgesOf s (q.d.next.getD s []) q.p).length) : BNum q (s + 1) (if q.d.fin.getD s false then ends ++ [(s : Int)] else ends) (es ++ edgesOf s (q.d.next.getD s []) q.p) := by
  have h1 := h.hist
  have h2 := h.elen
  rw [show q.d.next.length - s = (q.d.next.length - s - 1) + 1 by omega, backFrom, if_neg hb] at h1
  refine ⟨hs, ?_, by omega, by rw [← h1, show q.d.next.length - (s + 1) = q.d.next.length - s - 1 by omega]⟩
  split
  · rw [List.length_append, List.length_singleton]; omega
  · omega
theorem BNum.last {q : BPar} {s : Nat} {ends : List Int} {es : List Edge} (h : BNum q s ends es) (hs : ¬ s < q.d.next.length) : backFrom q.d q.p q.d.next.length 0 [] [] = .ok (ends, es) := by
  have h1 := h.hist
  rw [show q.d.next.length - s = 0 by omega, backFrom] at h1
  exact h1.symm
/-- the frame at the head of the outer loop, and of a round of the walk over the classes -/
def frmK (q : BPar) (u : Nat → Value) (s : Nat) : Array Value := #[u 0, .pointer (some ⟨q.w.heap.size, 0, none⟩), .pointer (some ⟨q.w.heap.size + 1, 0, none⟩), .int .i64 0, .slice q.adp q.p.length q.cpp, u 5, .pointer (some ⟨q.C, 0, none⟩), u 7, u 8, u 9, u 10, u 11, u 12, u 13, u 14, u 15, u 16, u 17, u 18, u 19, u 20, u 21, u 22, u 23, u 24, u 25, u 26, u 27, u 28, u 29, u 30, u 31, u 32, u 33, .slice (some ⟨q.g2, q.o2, none⟩) q.d.next.length q.cp2, .int .i64 q.d.next.length, .int .i64 s, u 37, u 38, u 39, u 40, u 41, u 42, u 43, u 44, u 45, u 46, u 47, u 48, u 49, u 50, u 51, u 52, u 53, u 54, u 55, u 56, u 57, u 58, u 59, u 60, u 61, u 62, u 63, u 64, u 65, u 66, u 67, u 68, u 69, u 70, u 71, u 72, u 73, u 74, u 75, u 76, u 77, u 78, u 79, u 80, u 81, u 82, u 83, u 84, u 85, u 86, u 87, u 88, u 89, u 90, u 91, u 92, u 93]
def frmKB (q : BPar) (u : Nat → Value) (s B8 B9 Bx : Nat) (c : Int) : Array Value := #[u 0, .pointer (some ⟨q.w.heap.size, 0, none⟩), .pointer (some ⟨q.w.heap.size + 1, 0, none⟩), .int .i64 0, .slice q.adp q.p.length q.cpp, u 5, .pointer (some ⟨q.C, 0, none⟩), u 7, .pointer (some ⟨B8, 0, none⟩), .pointer (some ⟨B9, 0, none⟩), .int .i64 c, .pointer (some ⟨Bx, 0, none⟩), u 12, u 13, u 14, u 15, u 16, u 17, u 18, u 19, u 20, u 21, u 22, u 23, u 24, u 25, u 26, u 27, u 28, u 29, u 30, u 31, u 32, u 33, .slice (some ⟨q.g2, q.o2, none⟩) q.d.next.length q.cp2, .int .i64 q.d.next.length, .int .i64 s, u 37, u 38, u 39, u 40, u 41, u 42, u 43, u 44, u 45, u 46, u 47, u 48, u 49, u 50, u 51, u 52, u 53, u 54, u 55, u 56, u 57, u 58, u 59, u 60, u 61, u 62, u 63, u 64, u 65, u 66, u 67, u 68, u 69, u 70, u 71, u 72, u 73, u 74, u 75, u 76, u 77, u 78, u 79, u 80, u 81, u 82, u 83, u 84, u 85, u 86, u 87, u 88, u 89, u 90, u 91, u 92, u 93]
def BRel (q : BPar) (s : Nat) (Ds : List Nat) (W : World) : Prop := ∃ ends es ev xv, BBase q W Ds ends es ev xv ∧ BNum q s ends es
def BLoop (q : BPar) (a : Act) (W : World) : Prop := ∃ (u : Nat → Value) (s : Nat) (Ds : List Nat), a = { tmps := frmK q u s, defers := Ds.map markD } ∧ BRel q s Ds W
theorem BLoop.mk {q : BPar} {tmps : Array Value} {s : Nat} {Ds : List Nat} {ds : List Deferred} {W : World} (h : tmps = frmK q (fun i => tmps.getD i undef) s) (hd : ds = Ds.map markD) (hr : BRel q s Ds W) : BLoop q { tmps := tmps, defers := ds } W := by
  subst hd
  exact ⟨_, s, Ds, congrArg (fun t => ({ tmps := t, defers := Ds.map markD } : Act)) h, hr⟩
/-- the walk over the classes, as it goes -/
def arrF (row : List Int) (p : List Se) : List (Cl p.length) → List Se → List Se
  | [], l => l
  | x :: cs, l => arrF row p cs (l.set (row.getD x.1 0).toNat (anyS (l.getD (row.getD x.1 0).toNat Se.none) (p[x.1]'x.2)))
theorem arrF_append (row : List Int) (p : List Se) : ∀ (cs ds : List (Cl p.length)) (l : List Se), arrF row p (cs ++ ds) l = arrF row p ds (arrF row p cs l)
  | [], _, _ => rfl
  | c :: cs, ds, l => by rw [List.cons_append, arrF, arrF, arrF_append row p cs ds]
theorem arrF_len (row : List Int) (p : List Se) : ∀ (cs : List (Cl p.length)) (l : List Se), (arrF row p cs l).length = l.length
  | [], _ => rfl
  | c :: cs, l => by rw [arrF, arrF_len row p cs, List.length_set]
theorem arrF_drop (row : List Int) (p : List Se) (hr : row.length = p.length) (hs : ∀ s ∈ row, 0 ≤ s ∧ s < 1024) : ∀ (j k : Nat), k + j = p.length → arrF row p ((allC p.length).drop k) (byL row p k) = byL row p p.length
  | 0, k, h => by
    have hk : k = p.length := by omega
    rw [List.drop_of_length_le (by rw [allC_len]; omega), hk]
    rfl
  | j + 1, k, h => by
    have hk : k < p.length := by omega
    have hkr : k < row.length := by omega
    rw [drop_cons' _ k (by rw [allC_len]; exact hk), allC_get hk, arrF]
    dsimp only
    have hb := hs _ (List.getElem_mem hkr)
    obtain ⟨r, hre⟩ := Int.eq_ofNat_of_zero_le hb.1
    have hr1 : r < 1024 := by omega
    have e1 : row.getD k 0 = (r : Int) := by rw [List.getD_eq_getElem?_getD, List.getElem?_eq_getElem hkr]; exact hre
    rw [e1, Int.toNat_natCast, List.getD_eq_getElem?_getD, List.getElem?_eq_getElem (show r < (byL row p k).length by rw [byL_len]; exact hr1), Option.getD_some, ← byL_succ row p k r hkr hk hre hr1]
    exact arrF_drop row p hr hs j (k + 1) (by omega)
theorem arrF_all (row : List Int) (p : List Se) (hr : row.length = p.length) (hs : ∀ s ∈ row, 0 ≤ s ∧ s < 1024) : arrF row p (allC p.length) zeros = byL row p p.length := by
  have := arrF_drop row p hr hs p.length 0 (by omega)
  rw [List.drop_zero, byL_zero] at this
  exact this
structure BMid (q : BPar) (W0 : World) (row : List Int) (B9 : Nat) (pre : List (Cl q.p.length)) (W : World) : Prop where
  turn : Turn (fun g => g = B9) W0 W
  arr : ArrIn W B9 (arrF row q.p pre zeros)
theorem BMid.own {q : BPar} {W0 : World} {row : List Int} {B9 : Nat} : OwnFrom W0.heap.size (BMid q W0 row B9) := fun pre W W' r h hg hr =>
  ⟨h.turn.from hg hr, (hg.block _ (lt_of_heap h.arr) fun e => by
    obtain ⟨_, o, h2, h3⟩ := hr _ e.symm
    have := h.arr
    unfold ArrIn at this
    rw [h2] at this; cases this; cases h3).trans h.arr⟩
/-- the call leaves with an error, its marks standing -/
theorem back_stops {w W : World} {Ds : List Nat} {er : Int} {tmps : Array Value} (hres : W.heap[w.heap.size + 1]? = some (.cells #[.int .i64 0, .slice none 0 0, .slice none 0 0, .slice none 0 0] 25 (0, 0)))
    (hb : Below w.heap.size w W) (hn : Ds.Nodup) (hD : ∀ D ∈ Ds, W.heap[D]? = some (.deferred (some []))) (h2 : tmps.getD 2 undef = .pointer (some ⟨w.heap.size + 1, 0, none⟩)) (h3 : tmps.getD 3 undef = .int .i64 er) (hlow : ∀ D ∈ Ds, w.heap.size ≤ D) :
    postM Tryd.prog Tryd.f22 (TextPost w (.error er)) Exit.ret { tmps := tmps, defers := Ds.map markD } W := by
  refine leaves_marks Ds W hn hD fun w' ht => ?_
  have hk : ∀ g cs t fr, W.heap[g]? = some (Obj.cells cs t fr) → w'.heap[g]? = some (Obj.cells cs t fr) := fun g cs t fr h => (ht.block g (lt_of_heap h) fun hm => by have := hD g hm; rw [h] at this; cases this).trans h
  refine ⟨_, results_cell_one (ty := 25) rfl _ _ (w.heap.size + 1) 25 _ (0, 0) _ h2 (hk _ _ _ _ hres) Tryd.underlying25 rfl (by kernel_rfl), ?_⟩
  rw [h3]
  exact ⟨rfl, hb.trans (ht.below hb.size hlow)⟩
/-- the call leaves with its automaton -/
theorem back_ends {q : BPar} {W W' : World} {Ds : List Nat} {ends : List Int} {es : List Edge} {ev xv : Value} {s : Nat} {tmps : Array Value} (h : BBase q W Ds ends es ev xv) (hn : BNum q s ends es) (hq : q.Ok)
    (ht : Turn (fun g => g = q.w.heap.size + 1) W W') (hres : W'.heap[q.w.heap.size + 1]? = some (.cells #[.int .i64 q.d.next.length, .slice (some ⟨q.S, 0, none⟩) 1 1, ev, xv] 25 (0, 0)))
    (h2 : tmps.getD 2 undef = .pointer (some ⟨q.w.heap.size + 1, 0, none⟩)) (h3 : tmps.getD 3 undef = .int .i64 0) :
    postM Tryd.prog Tryd.f22 (TextPost q.w (.ok ⟨q.d.next.length, [0], ends, es⟩)) Exit.ret { tmps := tmps, defers := Ds.map markD } W' := by
  have hs := hq.s
  have hc := hq.c
  have hel := hn.elen
  have hle := hn.le
  have hnl := hq.nl
  have hxl := hn.xlen
  have hz := h.below.size
  have hsz := ht.size
  have hds : ∀ D ∈ Ds, W'.heap[D]? = some (.deferred (some [])) := fun D hD => (ht.block D (lt_of_heap (h.ds D hD).2) (by have := (h.ds D hD).1; omega)).trans (h.ds D hD).2
  refine leaves_marks Ds W' h.nodup hds fun w' hw => ?_
  have hk : ∀ g cs t fr, W'.heap[g]? = some (Obj.cells cs t fr) → w'.heap[g]? = some (Obj.cells cs t fr) := fun g cs t fr h => (hw.block g (lt_of_heap h) fun hm => by have := hds g hm; rw [h] at this; cases this).trans h
  have hk2 : ∀ g cs t fr, q.w.heap.size + 2 ≤ g → W.heap[g]? = some (Obj.cells cs t fr) → w'.heap[g]? = some (Obj.cells cs t fr) := fun g cs t fr hg he => hk g cs t fr ((ht.block g (lt_of_heap he) (by omega)).trans he)
  have hwz := hw.size
  have kk : ∀ {base e k n : Nat} {u : Value} {xs : List Value}, q.w.heap.size + 2 ≤ base → W.ownsRow base e k u n xs → w'.ownsRow base e k u n xs := fun hb hu => own_blk hu fun g hg => by
    obtain ⟨cur, hc⟩ := own_tag hu hg
    rw [hc]
    exact hk2 g _ _ _ (Nat.le_trans hb (own_lt hu hg).1) hc
  refine ⟨_, results_cell_one (ty := 25) rfl _ _ (q.w.heap.size + 1) 25 _ (0, 0) _ h2 (hk _ _ _ _ hres) Tryd.underlying25 rfl (by kernel_rfl), ?_⟩
  rw [h3]
  refine ⟨_, _, _, _, rfl, ⟨rfl, ?_, ?_, ?_⟩, ?_⟩
  · exact one_ints (by omega) (hk2 _ _ _ _ hs h.st)
  · exact (ints_of_own (kk (by omega) h.ends) (by unfold maxLen; omega)).frame (fun g hg => ⟨by have := hg.1; omega, hg.2⟩) (fun _ _ _ => rfl)
  · exact (edges_of_own (kk (by omega) h.eds) (by unfold maxLen; omega)).frame (fun g hg => ⟨by have := hg.1; omega, hg.2⟩) (fun _ _ _ => rfl)
  · exact (h.below.trans (ht.below (by omega) (fun g hg => by omega))).trans (hw.below (by omega) (fun g hg => by have := (h.ds g hg).1; omega))
end Go.Proofs.YtfjomnhdmkbkiaaDoor.Im
