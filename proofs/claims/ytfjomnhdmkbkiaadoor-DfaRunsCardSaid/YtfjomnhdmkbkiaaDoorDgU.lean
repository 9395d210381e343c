/-
  The contract of whittleref11.Back: what dfa.Back makes, of an automaton of few states.
-/
import Derived.Test.YtfjomnhdmkbkiaaDoorDgT
import Derived.Test.YtfjomnhdmkbkiaaDoorDgJ
import Derived.Test.YtfjomnhdmkbkiaaDoorDgQ
namespace Go.Proofs.YtfjomnhdmkbkiaaDoor.Im
open Go.RowKit Go.Lib Go.Maps Go.Shelf

structure BLow (q : BPar) : Prop where
  s : q.w.heap.size + 2 ≤ q.S
  c : q.S < q.C
/-- one of the two rows of the result has grown -/
theorem BBase.grownL {q : BPar} {W W2 : World} {Ds : List Nat} {ends : List Int} {es : List Edge} {ev xv v v' : Value} {o : Obj} {e k : Nat} {xs : List Value} {i : Nat} (h : BBase q W Ds ends es ev xv) (_ : BLow q) (hv : W.ownsRow q.C e k v xs.length xs ∨ ∃ n, W.ownsRow q.C e k v n xs) (he : e ≠ 25)
    (hg : (W.alloc o).grownBy W2 v.ownBlock) :
    (∀ g, g < W.heap.size → g ≠ q.C → v.ownBlock ≠ some g → (W2.setCell ⟨q.C, i, none⟩ v').heap[g]? = W.heap[g]?) ∧ W2.heap[q.C]? = W.heap[q.C]? ∧ W.heap.size < W2.heap.size := by
  obtain ⟨n, hv⟩ : ∃ n, W.ownsRow q.C e k v n xs := by
    rcases hv with hv | ⟨n, hv⟩
    · exact ⟨_, hv⟩
    · exact ⟨n, hv⟩
  have hnb : v.ownBlock ≠ some q.C := fun e' => by
    obtain ⟨cur, hc⟩ := own_tag hv e'
    rw [h.nb] at hc; cases hc; exact he rfl
  have htu : Turn (fun g => g = q.C ∨ v.ownBlock = some g) W (W2.setCell ⟨q.C, i, none⟩ v') := (((Turn.refl _ W).alloc o).grown hg (fun g e => .inr e)).setCell (.inl rfl) _
  refine ⟨fun g hg h3 h4 => htu.block g hg fun h5 => h5.elim h3 h4, ?_, ?_⟩
  · have := lt_of_heap h.nb
    exact (hg.block _ (by simp; omega) (fun e => hnb e.symm)).trans (alloc_old (lt_of_heap h.nb))
  · have := hg.size; simp at this; omega
theorem BBase.keepL {q : BPar} {W W' : World} {Ds : List Nat} {ends ends' : List Int} {es es' : List Edge} {ev xv ev' xv' v : Value} {e k n : Nat} {xs : List Value} (h : BBase q W Ds ends es ev xv) (hq : BLow q) (hv : W.ownsRow q.C e k v n xs)
    (hsame : ∀ g, g < W.heap.size → g ≠ q.C → v.ownBlock ≠ some g → W'.heap[g]? = W.heap[g]?) (hbw : Below q.w.heap.size q.w W')
    (hnb : W'.heap[q.C]? = some (.cells #[.int .i64 q.d.next.length, .slice (some ⟨q.S, 0, none⟩) 1 1, ev', xv'] 25 (0, 0))) (he : OwnInts W' q.C ev' ends') (hx : OwnEdges W' q.C xv' es') : BBase q W' Ds ends' es' ev' xv' := by
  have h1 := hq.s
  have h2 := hq.c
  have low : ∀ g, g < q.C → v.ownBlock ≠ some g := fun g hg e => by have := (own_lt hv e).1; omega
  have hc := lt_of_heap h.nb
  refine ⟨(hsame _ (lt_of_heap h.arg) (by omega) (low _ (by omega))).trans h.arg, (hsame _ (lt_of_heap h.res) (by omega) (low _ (by omega))).trans h.res, hbw, SetsIn.frame h.sets (fun _ h => h) (fun g hg hl => hsame g hl (by have := hg.2; omega) (low g (by have := hg.2; omega))), (hsame _ (lt_of_heap h.st) (by omega) (low _ (by omega))).trans h.st, hnb, he, hx, h.nodup, fun D hD => ⟨(h.ds D hD).1, (hsame D (lt_of_heap (h.ds D hD).2) (by have := (h.ds D hD).1; omega) (fun e => ?_)).trans (h.ds D hD).2⟩⟩
  obtain ⟨cur, hc⟩ := own_tag hv e
  rw [(h.ds D hD).2] at hc; cases hc
theorem BBase.addEndL {q : BPar} {W W2 : World} {Ds : List Nat} {ends : List Int} {es : List Edge} {ev xv ev' : Value} {o : Obj} {x : Int} (h : BBase q W Ds ends es ev xv) (hq : BLow q)
    (hown : W2.ownsRow q.C 3 1 ev' (ends.length + 1) (ends.map iV ++ [iV x])) (hg : (W.alloc o).grownBy W2 ev.ownBlock) : BBase q (W2.setCell ⟨q.C, 2, none⟩ ev') Ds (ends ++ [x]) es ev' xv := by
  obtain ⟨h1, h2, h3⟩ := h.grownL (i := 2) (v' := ev') hq (.inr ⟨_, h.ends⟩) (by decide) hg
  have hnb2 := h2.trans h.nb
  refine h.keepL hq h.ends h1 ?_ (four_set2 _ hnb2) ?_ ?_
  · have hs := hq.s
    have hc := hq.c
    have hz := h.below.size
    have hl := lt_of_heap h.nb
    refine ((h.below.alloc hz o).grown hg (by simp; omega) (fun g e => ?_)).setCell (by simp; omega) _
    have := (own_lt h.ends e).1; omega
  · have := own_set (i := 2) (u := ev') hown hnb2 (by decide)
    unfold OwnInts
    rw [List.length_append, List.map_append]
    exact this
  · exact own_blk h.eds fun g e => h1 g (own_lt h.eds e).2 (fun e' => by
      obtain ⟨cur, hc⟩ := own_tag h.eds e
      rw [e', h.nb] at hc; cases hc) (own_apart2 h.eds h.ends (by decide) g e)
theorem BBase.addEdgeL {q : BPar} {W W2 : World} {Ds : List Nat} {ends : List Int} {es : List Edge} {ev xv xv' : Value} {o : Obj} {x : Edge} (h : BBase q W Ds ends es ev xv) (hq : BLow q)
    (hown : W2.ownsRow q.C 67 6 xv' (es.length + 1) (flatE es ++ x.ls)) (hg : (W.alloc o).grownBy W2 xv.ownBlock) : BBase q (W2.setCell ⟨q.C, 3, none⟩ xv') Ds ends (es ++ [x]) ev xv' := by
  obtain ⟨h1, h2, h3⟩ := h.grownL (i := 3) (v' := xv') hq (.inr ⟨_, h.eds⟩) (by decide) hg
  have hnb2 := h2.trans h.nb
  refine h.keepL hq h.eds h1 ?_ (four_set3 _ hnb2) ?_ ?_
  · have hs := hq.s
    have hc := hq.c
    have hz := h.below.size
    have hl := lt_of_heap h.nb
    refine ((h.below.alloc hz o).grown hg (by simp; omega) (fun g e => ?_)).setCell (by simp; omega) _
    have := (own_lt h.eds e).1; omega
  · exact own_blk h.ends fun g e => h1 g (own_lt h.ends e).2 (fun e' => by
      obtain ⟨cur, hc⟩ := own_tag h.ends e
      rw [e', h.nb] at hc; cases hc) (own_apart2 h.ends h.eds (by decide) g e)
  · have := own_set (i := 3) (u := xv') hown hnb2 (by decide)
    unfold OwnEdges
    rw [List.length_append, flatE_snoc]
    exact this
structure RNum (d : Dfa) (p : List Se) (s : Nat) (ends : List Int) (es : List Edge) : Prop where
  le : s ≤ d.next.length
  elen : ends.length ≤ s
  xlen : es.length ≤ 20 * s
  hist : backFrom d p (d.next.length - s) s ends es = backFrom d p d.next.length 0 [] []
theorem RNum.good {d : Dfa} {p : List Se} {s : Nat} {ends : List Int} {es : List Edge} (h : RNum d p s ends es) (hs : s < d.next.length) (hn : d.next.length ≤ 40) (hr : ∀ row ∈ d.next, row.length ≤ 20) : RNum d p (s + 1) (if d.fin.getD s false then ends ++ [(s : Int)] else ends) (es ++ edgesOf s (d.next.getD s []) p) := by
  have h1 := h.hist
  have h2 := h.elen
  have h3 := h.xlen
  have h4 := edgesOf_len s (d.next.getD s []) p
  have h5 := hr _ (getD_mem hs [])
  rw [show d.next.length - s = (d.next.length - s - 1) + 1 by omega, backFrom, if_neg (by rw [List.length_append]; omega)] at h1
  refine ⟨hs, ?_, by rw [List.length_append]; omega, by rw [← h1, show d.next.length - (s + 1) = d.next.length - s - 1 by omega]⟩
  split
  · rw [List.length_append, List.length_singleton]; omega
  · omega
theorem RNum.last {d : Dfa} {p : List Se} {ends : List Int} {es : List Edge} (h : RNum d p d.next.length ends es) : backFrom d p d.next.length 0 [] [] = .ok (ends, es) := by
  have h1 := h.hist
  rw [Nat.sub_self, backFrom] at h1
  exact h1.symm
theorem backR_ends {q : BPar} {W W' : World} {ends : List Int} {es : List Edge} {ev xv : Value} (h : BBase q W [] ends es ev xv) (hq : BLow q) (hel : ends.length ≤ 40) (hxl : es.length ≤ 800)
    (ht : Turn (fun g => g = q.w.heap.size + 1) W W') :
    NfaIn (fun g => q.w.heap.size ≤ g ∧ g < W'.heap.size) W' (.int .i64 q.d.next.length) (.slice (some ⟨q.S, 0, none⟩) 1 1) ev xv ⟨q.d.next.length, [0], ends, es⟩ ∧ Below q.w.heap.size q.w W' := by
  have hs := hq.s
  have hc := hq.c
  have hz := h.below.size
  have hsz := ht.size
  have hk2 : ∀ g cs t fr, q.w.heap.size + 2 ≤ g → W.heap[g]? = some (Obj.cells cs t fr) → W'.heap[g]? = some (Obj.cells cs t fr) := fun g cs t fr hg he => (ht.block g (lt_of_heap he) (by omega)).trans he
  have kk : ∀ {base e k n : Nat} {u : Value} {xs : List Value}, q.w.heap.size + 2 ≤ base → W.ownsRow base e k u n xs → W'.ownsRow base e k u n xs := fun hb hu => own_blk hu fun g hg => by
    obtain ⟨cur, hc⟩ := own_tag hu hg
    rw [hc]
    exact hk2 g _ _ _ (Nat.le_trans hb (own_lt hu hg).1) hc
  refine ⟨⟨rfl, ?_, ?_, ?_⟩, h.below.trans (ht.below (by omega) (fun g hg => by omega))⟩
  · exact one_ints (by omega) (hk2 _ _ _ _ hs h.st)
  · exact (ints_of_own (kk (by omega) h.ends) (by unfold maxLen; omega)).frame (fun g hg => ⟨by have := hg.1; omega, hg.2⟩) (fun _ _ _ => rfl)
  · exact (edges_of_own (kk (by omega) h.eds) (by unfold maxLen; omega)).frame (fun g hg => ⟨by have := hg.1; omega, hg.2⟩) (fun _ _ _ => rfl)
set_option maxRecDepth 100000 in
set_option maxHeartbeats 4000000 in
theorem backR_err {F : Nat → Prop} {w : World} {a b c : Value} {d : Dfa} (hd : DfaIn F w a b c d) (hF : ∀ g, F g → g < w.heap.size) (hno : dfaOk d = false) :
    Calls Tryd.prog 23 #[.agg #[a, b, c]] w (TextPost w (.error 1)) := by
  obtain ⟨ad1, cp1, rfl, hm1, _⟩ := hd.cls
  obtain ⟨ad2, cp2, rfl, hm2, _⟩ := hd.next
  obtain ⟨ad3, cp3, rfl, hm3, _⟩ := hd.fin
  unfold maxLen at hm1 hm2 hm3
  have HD := hid hd
  have HF := hid hF
  have HNO := hid hno
  clear hd hF hno
  go_enter Tryd.func23, Tryd.ntmps23
  go_upto_region 1 with fail
  obtain ⟨W0, hW0⟩ : ∃ W0, W0 = (w.alloc (.cells #[.slice ad1 d.cls.length cp1, .slice ad2 d.next.length cp2, .slice ad3 d.fin.length cp3] 30)).alloc (.cells #[.int .i64 0, .slice none 0 0, .slice none 0 0, .slice none 0 0] 25) := ⟨_, rfl⟩
  have HA0 := hid (show W0.heap[w.heap.size]? = some (.cells #[.slice ad1 d.cls.length cp1, .slice ad2 d.next.length cp2, .slice ad3 d.fin.length cp3] 30 (0, 0)) by rw [hW0]; exact (alloc_old (by simp)).trans (heap_alloc_new _ _))
  have HR0 := hid (show W0.heap[w.heap.size + 1]? = some (.cells #[.int .i64 0, .slice none 0 0, .slice none 0 0, .slice none 0 0] 25 (0, 0)) by rw [hW0]; exact newB _ _ _)
  have HB0 := hid (show Below w.heap.size w W0 by rw [hW0]; exact ((Below.refl _ _).alloc (Nat.le_refl _) _).alloc (by simp) _)
  have HZ0 := hid (show W0.heap.size = w.heap.size + 2 by rw [hW0]; simp)
  rw [← hW0]
  clear hW0
  obtain ⟨q0, q1, q2⟩ := dcells HA0.out
  have hch := rightR_any (HD.out.frame (F' := F) (w' := W0) (fun _ h => h) (fun g hg _ => HB0.out.block g (HF.out g hg))) (fun g hg => by have := HF.out g hg; have := HZ0.out; omega)
  rw [HNO.out] at hch
  go_wp2_with fail
  refine hch.mono ?_
  clear hch
  rintro e w1 ⟨rfl, hb1⟩
  have HR1 := hid ((hb1.block _ (lt_of_heap HR0.out)).trans HR0.out)
  have HB1 := hid (HB0.out.trans (hb1.mono HB0.out.size))
  clear hb1 q0 q1 q2
  go_wp2_with (refine wpList_store_same rfl 25 (.tmp 2) (.tmp 13) rfl 4 infoNfa (w.heap.size + 1) 25 _ HR1.out rfl (by rfl) (by rfl) rfl ?_)
  refine bodyPost_ret (results_cell_one (ty := 25) rfl _ _ (w.heap.size + 1) 25 _ (0, 0) _ rfl HR1.out Tryd.underlying25 rfl (by kernel_rfl)) rfl ?_
  exact ⟨rfl, HB1.out⟩
set_option maxRecDepth 100000 in
set_option maxHeartbeats 16000000 in
theorem backR_main {F : Nat → Prop} {w : World} {a b c : Value} {d : Dfa} {p : List Se} (hd : DfaIn F w a b c d) (hF : ∀ g, F g → g < w.heap.size) (hok : dfaOk d = true) (hp : setsOf d.cls = some p) (hn40 : d.next.length ≤ 40) (hr20 : ∀ row ∈ d.next, row.length ≤ 20) :
    Calls Tryd.prog 23 #[.agg #[a, b, c]] w (TextPost w (match backFrom d p d.next.length 0 [] [] with | .error e => .error e | .ok (ends, es) => .ok ⟨d.next.length, [0], ends, es⟩)) := by
  obtain ⟨ad1, cp1, rfl, hm1, _⟩ := hd.cls
  obtain ⟨ad2, cp2, rfl, hm2, _⟩ := hd.next
  obtain ⟨ad3, cp3, rfl, hm3, _⟩ := hd.fin
  unfold maxLen at hm1 hm2 hm3
  obtain ⟨g2, o2, rfl⟩ : ∃ g2 o2, ad2 = some ⟨g2, o2, none⟩ := by
    obtain ⟨_, _, _, hn1, _⟩ := dfaOk_parts hok
    obtain ⟨g2, o2, _, h, _⟩ := rows_at hd.next (show 0 < d.next.length by omega)
    exact ⟨g2, o2, h⟩
  have HD := hid hd
  have HF := hid hF
  have HOK := hid hok
  have HP := hid hp
  have HR20 := hid hr20
  obtain ⟨xr, hxr⟩ : ∃ xr : Except Int Nfa, xr = (match backFrom d p d.next.length 0 [] [] with | .error e => .error e | .ok (ends, es) => .ok ⟨d.next.length, [0], ends, es⟩) := ⟨_, rfl⟩
  rw [← hxr]
  have HXR := hid hxr
  clear hd hF hok hp hr20 hxr
  go_enter Tryd.func23, Tryd.ntmps23
  go_upto_region 1 with fail
  obtain ⟨W0, hW0⟩ : ∃ W0, W0 = (w.alloc (.cells #[.slice ad1 d.cls.length cp1, .slice (some ⟨g2, o2, none⟩) d.next.length cp2, .slice ad3 d.fin.length cp3] 30)).alloc (.cells #[.int .i64 0, .slice none 0 0, .slice none 0 0, .slice none 0 0] 25) := ⟨_, rfl⟩
  have HA0 := hid (show W0.heap[w.heap.size]? = some (.cells #[.slice ad1 d.cls.length cp1, .slice (some ⟨g2, o2, none⟩) d.next.length cp2, .slice ad3 d.fin.length cp3] 30 (0, 0)) by rw [hW0]; exact (alloc_old (by simp)).trans (heap_alloc_new _ _))
  have HR0 := hid (show W0.heap[w.heap.size + 1]? = some (.cells #[.int .i64 0, .slice none 0 0, .slice none 0 0, .slice none 0 0] 25 (0, 0)) by rw [hW0]; exact newB _ _ _)
  have HB0 := hid (show Below w.heap.size w W0 by rw [hW0]; exact ((Below.refl _ _).alloc (Nat.le_refl _) _).alloc (by simp) _)
  have HZ0 := hid (show W0.heap.size = w.heap.size + 2 by rw [hW0]; simp)
  rw [← hW0]
  clear hW0
  obtain ⟨q0, q1, q2⟩ := dcells HA0.out
  have hch := rightR_any (HD.out.frame (F' := F) (w' := W0) (fun _ h => h) (fun g hg _ => HB0.out.block g (HF.out g hg))) (fun g hg => by have := HF.out g hg; have := HZ0.out; omega)
  rw [HOK.out] at hch
  go_wp2_with fail
  refine hch.mono ?_
  clear hch q0 q1 q2
  rintro e w2 ⟨rfl, hb2⟩
  have HA2 := hid ((hb2.block _ (lt_of_heap HA0.out)).trans HA0.out)
  have HR2 := hid ((hb2.block _ (lt_of_heap HR0.out)).trans HR0.out)
  have HB2 := hid (HB0.out.trans (hb2.mono HB0.out.size))
  have hz2 : w.heap.size + 2 ≤ w2.heap.size := by have := hb2.size; have := HZ0.out; omega
  clear hb2
  have HFL := hid (show d.fin.length = d.next.length by obtain ⟨_, _, _, _, _, h, _⟩ := dfaOk_parts HOK.out; exact h)
  obtain ⟨q0, q1, q2⟩ := dcells HA2.out
  go_upto_region 4 with fail
  obtain ⟨W4, hW4⟩ : ∃ W4, W4 = (w2.alloc (.cells #[.int .i64 0] 3)).alloc (.cells #[.int .i64 d.next.length, .slice (some ⟨w2.heap.size, 0, none⟩) 1 1, .slice none 0 0, .slice none 0 0] 25) := ⟨_, rfl⟩
  rw [← hW4]
  have HB4 := hid (show Below w2.heap.size w2 W4 by rw [hW4]; exact ((Below.refl _ _).alloc (Nat.le_refl _) _).alloc (by simp) _)
  have HST4 := hid (show W4.heap[w2.heap.size]? = some (.cells #[.int .i64 0] 3 (0, 0)) by rw [hW4]; exact (alloc_old (by simp)).trans (heap_alloc_new _ _))
  have HNB4 := hid (show W4.heap[w2.heap.size + 1]? = some (.cells #[.int .i64 d.next.length, .slice (some ⟨w2.heap.size, 0, none⟩) 1 1, .slice none 0 0, .slice none 0 0] 25 (0, 0)) by rw [hW4]; exact newB _ _ _)
  have HA4 := hid ((HB4.out.block _ (lt_of_heap HA2.out)).trans HA2.out)
  have HR4 := hid ((HB4.out.block _ (lt_of_heap HR2.out)).trans HR2.out)
  have HBB := hid (HB2.out.trans (HB4.out.mono HB2.out.size))
  obtain ⟨S0, hS0⟩ : ∃ S0, S0 = w2.heap.size := ⟨_, rfl⟩
  obtain ⟨C0, hC0⟩ : ∃ C0, C0 = S0 + 1 := ⟨_, rfl⟩
  rw [← hS0] at HST4 HNB4 hz2 ⊢
  rw [← hC0] at HNB4 ⊢
  have HDD := hid (HD.out.frame (F' := fun g => g < w.heap.size) (fun g hg => HF.out g hg) (fun _ _ _ => rfl))
  clear hW4 q0 q1 q2 HB4 HA2 HR2 HB2 hS0 HA0 HR0 HB0 HZ0
  obtain ⟨q, e1, e2, e4, e5, e6, e14, e7, e8, e9, e12, e13⟩ : ∃ q : BPar, w = q.w ∧ d = q.d ∧ ad1 = q.ad1 ∧ cp1 = q.cp1 ∧ g2 = q.g2 ∧ o2 = q.o2 ∧ cp2 = q.cp2 ∧ ad3 = q.ad3 ∧ cp3 = q.cp3 ∧ (S0 = q.S ∧ q.p = [] ∧ q.adp = none ∧ q.cpp = 0) ∧ C0 = q.C :=
    ⟨⟨w, d, [], ad1, cp1, g2, o2, cp2, ad3, cp3, none, 0, S0, C0⟩, rfl, rfl, rfl, rfl, rfl, rfl, rfl, rfl, rfl, ⟨rfl, rfl, rfl, rfl⟩, rfl⟩
  obtain ⟨e12, ep, eap, ecp⟩ := e12
  subst e1 e2 e4 e5 e6 e14 e7 e8 e9 e12 e13
  have HQ := hid (show BLow q from ⟨hz2, by omega⟩)
  have HB0 := hid (show BBase q W4 [] [] [] (.slice none 0 0) (.slice none 0 0) from ⟨HA4.out, HR4.out, HBB.out, by rw [ep, eap, ecp]; exact ⟨none, 0, rfl, Nat.zero_le _, fun h => absurd rfl h⟩, HST4.out, HNB4.out, World.ownsRow_nil _ _ _ _, World.ownsRow_nil _ _ _ _, List.nodup_nil, fun D hD => by cases hD⟩)
  have HN0 := hid (show RNum q.d p 0 [] [] from ⟨Nat.zero_le _, Nat.le_refl _, by simp, rfl⟩)
  obtain ⟨q0, q1, q2⟩ := dcells HA4.out
  clear ep eap ecp
  go_wp2_with fail
  clear q0 q1 q2 HA4 HR4 HBB HST4 HNB4 hz2 hC0
  generalize (Value.agg #[.slice q.ad1 q.d.cls.length q.cp1, .slice (some ⟨q.g2, q.o2, none⟩) q.d.next.length q.cp2, .slice q.ad3 q.d.fin.length q.cp3]) = v0
  go_loopw [5] (fun i wr => ∃ (s : Nat) (ends : List Int) (es : List Edge) (ade : Option Addr) (cpe : Nat) (adx : Option Addr) (cpx : Nat), s ≤ q.d.next.length ∧ i = .int .i64 s ∧ BBase q wr [] ends es (.slice ade ends.length cpe) (.slice adx es.length cpx) ∧ Hid (RNum q.d p s ends es)) (fun i _ => q.d.next.length - (intOf i).toNat)
  case atStart => exact ⟨0, [], [], none, 0, none, 0, Nat.zero_le _, rfl, HB0.out, HN0⟩
  case round =>
    clear HB0 HN0
    obtain ⟨s, ends, es, ade, cpe, adx, cpx, hsl, rfl, hbb, HN⟩ := hrel
    have HB := hid hbb
    clear hbb
    obtain ⟨q0, q1, q2⟩ := dcells HB.out.arg
    by_cases hs : s < q.d.next.length
    · have hel := HN.out.elen
      have hxl := HN.out.xlen
      have hnb := lt_of_heap HB.out.nb
      obtain ⟨g3, off3, hg3, hg3l, hfc0⟩ := bools_at HDD.out.fin (show s < q.d.fin.length by rw [HFL.out]; exact hs)
      have hfc := (cell_heap (o := off3 + s) (HB.out.below.block g3 hg3l)).trans hfc0
      have HFB := hid (show q.d.fin.getD s false = q.d.fin[s]'(by rw [HFL.out]; exact hs) by rw [List.getD_eq_getElem?_getD, List.getElem?_eq_getElem (by rw [HFL.out]; exact hs)]; rfl)
      obtain ⟨fb, hfb⟩ : ∃ fb, fb = q.d.fin[s]'(by rw [HFL.out]; exact hs) := ⟨_, rfl⟩
      rw [← hfb] at hfc HFB
      have hfl' : s < q.d.fin.length := by rw [HFL.out]; exact hs
      obtain ⟨iI, hiI, hiI0, hiI1, hiI2⟩ := info_parts infoI
      have HII := hid hiI
      have HZI := hid (And.intro hiI0 (And.intro hiI1 hiI2))
      have c2 := cell_blk (i := 2) HB.out.nb rfl
      clear hfb hfc0 hiI hiI0 hiI1 hiI2 hg3l
      cases fb
      focus
        go_upto_region 9 with fail
        have HB5 := hid HB.out
        have HE5 := hid (show ends = if q.d.fin.getD s false then ends ++ [(s : Int)] else ends by rw [HFB.out]; rfl)
        clear HFB hfc hg3 c2 q0 q1 q2 HII HZI hnb
        obtain ⟨ends5, hends5⟩ : ∃ ends5, ends5 = ends := ⟨_, rfl⟩
        obtain ⟨ade5, hade5⟩ : ∃ a, a = ade := ⟨_, rfl⟩
        obtain ⟨cpe5, hcpe5⟩ : ∃ a, a = cpe := ⟨_, rfl⟩
        obtain ⟨W5, hW5⟩ : ∃ a, a = wr := ⟨_, rfl⟩
        rw [← hends5, ← hade5, ← hcpe5] at HB5
        rw [← hW5] at HB5 ⊢
        have HE5 := hid (show ends5 = if q.d.fin.getD s false then ends ++ [(s : Int)] else ends from hends5.trans HE5.out)
        clear hends5 hade5 hcpe5 hW5
      rotate_left
      focus
        go_upto_region 9 with (at_builtin; refine wpList_append_own_at _ rfl _ _ 22 rfl q.C 3 iI (.int .i64 0) 1 8 Tryd.underlying22 HII.out HZI.out.1 HZI.out.2.1 HZI.out.2.2 rfl (by decide) (.slice ade ends.length cpe) ends.length (ends.map iV) (by rfl) (HB.out.ends.alloc _) ⟨wr.heap.size, 0, none⟩ 1 1 [.int .i64 s] (by rfl) rfl (cell_one_new _ _ _) (one_cell_one rfl) (by unfold maxLen; omega) (by omega) (by simp; omega) ?_; intro ev' w5 ho5 hg5 _ hat5; obtain ⟨ade', cpe', rfl⟩ := own_shape ho5; have HO5 := hid ho5; have HG5 := hid hg5; have hd5 := (HB.out.grownL (i := 2) (v' := undef) HQ.out (.inr ⟨_, HB.out.ends⟩) (by decide) hg5).2.1.trans HB.out.nb; have x1 := cell_blk (i := 2) hd5 rfl; have x2 := free_box (i := 2) hd5; clear ho5 hg5 hat5 hd5)
        have HB5 := hid (HB.out.addEndL (x := (s : Int)) HQ.out HO5.out HG5.out)
        have HE5 := hid (show ends ++ [(s : Int)] = if q.d.fin.getD s false then ends ++ [(s : Int)] else ends by rw [HFB.out]; rfl)
        rw [show ends.length + 1 = (ends ++ [(s : Int)]).length by simp] at HB5 ⊢
        clear HFB hfc hg3 c2 q0 q1 q2 HO5 HG5 x1 x2 HII HZI hnb
        obtain ⟨ends5, hends5⟩ : ∃ ends5, ends5 = ends ++ [(s : Int)] := ⟨_, rfl⟩
        rw [← hends5] at HB5 ⊢
        have HE5 := hid (show ends5 = if q.d.fin.getD s false then ends ++ [(s : Int)] else ends from hends5.trans HE5.out)
        clear hends5
        obtain ⟨ade5, hade5⟩ : ∃ a, a = ade' := ⟨_, rfl⟩
        obtain ⟨cpe5, hcpe5⟩ : ∃ a, a = cpe' := ⟨_, rfl⟩
        rw [← hade5, ← hcpe5] at HB5 ⊢
        generalize w5.setCell ⟨q.C, 2, none⟩ (.slice ade5 ends5.length cpe5) = W5 at *
        clear hade5 hcpe5
      all_goals
        have HE0 := hid (show es = es ++ edgesTo s (q.d.next.getD s []) p 0 by simp [edgesTo])
        have HBD0 := hid (show BBase q W5 [] ends5 (es ++ edgesTo s (q.d.next.getD s []) p 0) (.slice ade5 ends5.length cpe5) (.slice adx (es ++ edgesTo s (q.d.next.getD s []) p 0).length cpx) by rw [← HE0.out]; exact HB5.out)
        clear HB5
        go_wp2_with fail
        go_loopw [6] (fun i wr => ∃ (t : Nat) (adx' : Option Addr) (cpx' : Nat), t ≤ q.d.next.length ∧ i = .int .i64 t ∧ BBase q wr [] ends5 (es ++ edgesTo s (q.d.next.getD s []) p t) (.slice ade5 ends5.length cpe5) (.slice adx' (es ++ edgesTo s (q.d.next.getD s []) p t).length cpx')) (fun i _ => q.d.next.length - (intOf i).toNat)
        case atStart => exact ⟨0, adx, cpx, Nat.zero_le _, rfl, HBD0.out⟩
        case round =>
          clear HBD0 HE0
          obtain ⟨t, adx', cpx', htl, rfl, hbb⟩ := hrel
          have HBK := hid hbb
          clear hbb
          obtain ⟨q0, q1, q2⟩ := dcells HBK.out.arg
          by_cases ht : t < q.d.next.length
          · have hxl := HN.out.xlen
            have hell := edgesTo_len s (q.d.next.getD s []) p t
            have hesl : (es ++ edgesTo s (q.d.next.getD s []) p t).length ≤ 840 := by rw [List.length_append]; omega
            obtain ⟨est, hest⟩ : ∃ l, l = es ++ edgesTo s (q.d.next.getD s []) p t := ⟨_, rfl⟩
            rw [← hest] at HBK hesl
            have HEST := hid hest
            obtain ⟨jL, hjL, hjL0, hjL1, hjL2⟩ := info_parts infoL
            have HJ := hid hjL
            have HY := hid (And.intro hjL0 (And.intro hjL1 hjL2))
            clear hell hest hjL hjL0 hjL1 hjL2
            go_upto_region 13 with (at_make; refine wpList_make_full _ rfl _ _ 28 rfl wr.heap.size 4 jL (.bool false) 1 Tryd.underlying28 HJ.out HY.out.1 HY.out.2.1 .i64 .i64 256 256 256 rfl rfl rfl rfl (by rw [HY.out.2.2]; decide) (by unfold maxLen; omega) (Nat.le_refl _) ?_; intro w2 hown2 hgrow2; have HO2 := hid hown2; have HG2 := hid hgrow2; clear hown2 hgrow2)
            have HB2 := hid (show Below wr.heap.size wr w2 from (Below.refl _ wr).grown HG2.out (Nat.le_refl _) (fun q hq => by cases hq))
            have HR2 := hid (show BRow w2 wr.heap.size wr.heap.size 256 (leadTo q.d s t 0) by rw [leadTo_zero]; exact brow_made HO2.out)
            clear HO2 HG2 q0 q1 q2
            obtain ⟨wo, rfl⟩ : ∃ wo : World, wo = wr := ⟨_, rfl⟩
            go_wp2_with fail
            go_loopw [8, 9] (fun v8 v9 wx => ∃ k : Nat, k ≤ 256 ∧ v8 = .bool ((List.range k).any (leadB q.d s t)) ∧ v9 = .int .i64 k ∧ BRow wx wo.heap.size wo.heap.size 256 (leadTo q.d s t k) ∧ Below wo.heap.size wo wx) (fun _ v9 _ => 256 - (intOf v9).toNat)
            case atStart => exact ⟨0, by omega, rfl, rfl, HR2.out, HB2.out⟩
            case round =>
              clear HR2 HB2
              obtain ⟨k, hk, rfl, rfl, hbr, hbx⟩ := hrel
              have HBR := hid hbr
              have HBX := hid hbx
              have HBW := hid (HBK.out.below' hbx)
              clear hbr hbx
              by_cases hlk : k < 256
              · obtain ⟨q0, q1, q2⟩ := dcells HBW.out.arg
                have htn : (UInt8.ofNat k).toNat = k := by rw [UInt8.toNat_ofNat']; omega
                obtain ⟨g1, o1, g2', o2', g3', o3', n3, c3', kk, r, e1, x2, x1, e2, x3, x4, x5, x6, x7, x8, x9⟩ := go_at (HDD.out.cls.frame (F' := fun g => g < q.w.heap.size) (w' := wr) (fun _ h => h) (fun g hg _ => HBW.out.below.block g hg)) (HDD.out.next.frame (F' := fun g => g < q.w.heap.size) (w' := wr) (fun _ h => h) (fun g hg _ => HBW.out.below.block g hg)) HOK.out hs (UInt8.ofNat k)
                cases e2
                rw [htn] at x2 x1
                unfold maxLen at x6
                have HLD := hid (show leadB q.d s t k = decide ((r : Int) = (t : Int)) by unfold leadB; rw [x8])
                have HAN := hid (anyTo_succ q.d s t k)
                have HTS := hid (leadTo_succ q.d s t k hlk)
                have hk' : (k : Int) < 256 := by omega
                have hcl := HBR.out.cell (i := k) (by rw [leadTo_len]; exact hlk) (leadTo_len _ _ _ _)
                have hfr := own_free (i := k) HBR.out
                generalize (List.range k).any (leadB q.d s t) = av at *
                clear x8 htn
                by_cases hrt : r = t
                · subst hrt
                  have HL1 := hid (show leadB q.d s r k = true by rw [HLD.out]; exact decide_eq_true rfl)
                  clear HLD
                  cases av
                  all_goals
                    go_wp2_with fail
                    go_region
                    all_goals go_wp2_with fail
                    all_goals go_roundw
                    all_goals first
                      | (case rel => exact ⟨k + 1, by omega, by rw [HAN.out, HL1.out]; rfl, by go_num, by rw [HTS.out, HL1.out]; exact BRow.set (w := wr.drew) (own_drew HBR.out) k true, HBX.out.drew.setCell (Nat.le_refl _) _⟩)
                      | (case measure => simp [intOf]; omega)
                · have hne : ((r : Int) == (t : Int)) = false := by simp; omega
                  have HL1 := hid (show leadB q.d s t k = false by rw [HLD.out]; exact decide_eq_false (by omega))
                  clear HLD hrt
                  cases av
                  all_goals
                    go_wp2_with fail
                    go_region
                    all_goals go_wp2_with fail
                    all_goals go_roundw
                    all_goals first
                      | (case rel => exact ⟨k + 1, by omega, by rw [HAN.out, HL1.out]; rfl, by go_num, by rw [HTS.out, HL1.out]; exact BRow.set (w := wr.drew) (own_drew HBR.out) k false, HBX.out.drew.setCell (Nat.le_refl _) _⟩)
                      | (case measure => simp [intOf]; omega)
              · obtain rfl : k = 256 := by omega
                rw [leadTo_all] at HBR
                have HANY := hid (any_byM HOK.out HP.out hs t)
                have HMK := hid (fun se (h : MakeAt (leadL q.d s t) 256 se) => make_byM HOK.out HP.out hs t h)
                have HENO := hid (fun (h : byM (q.d.next.getD s []) p t = Se.none) => edgesTo_no (s := s) h)
                have HEYE := hid (fun (h : byM (q.d.next.getD s []) p t ≠ Se.none) => edgesTo_yes (s := s) h)
                generalize (List.range 256).any (leadB q.d s t) = av at *
                cases av with
                | false =>
                  have HNEW := hid (show es ++ edgesTo s (q.d.next.getD s []) p (t + 1) = est by rw [HENO.out (HANY.out.1 rfl), HEST.out])
                  go_wp2_with fail
                  go_roundw
                  case rel => exact ⟨t + 1, adx', cpx', ht, by go_num, by rw [HNEW.out]; exact HBW.out⟩
                  case measure => simp [intOf]; omega
                | true =>
                  have HNN := hid (show byM (q.d.next.getD s []) p t ≠ Se.none from fun h => by have := HANY.out.2 h; cases this)
                  have HBI := hid (HBR.out.bools (leadL_len q.d s t))
                  have hnbw := lt_of_heap HBW.out.nb
                  obtain ⟨iE, hiE, hiE0, hiE1, hiE2⟩ := info_parts infoEdge
                  have HIE := hid hiE
                  have HZE := hid (And.intro hiE0 (And.intro hiE1 hiE2))
                  clear hiE hiE0 hiE1 hiE2
                  have HS := hid (show (fun W : World => W.heap[q.C]? = some (.cells #[.int .i64 q.d.next.length, .slice (some ⟨q.S, 0, none⟩) 1 1, .slice ade5 ends5.length cpe5, .slice adx' est.length cpx'] 25 (0, 0))) wr.drew from HBW.out.nb)
                  go_wp2_with fail
                  refine Till.start (S := (fun W : World => W.heap[q.C]? = some (.cells #[.int .i64 q.d.next.length, .slice (some ⟨q.S, 0, none⟩) 1 1, .slice ade5 ends5.length cpe5, .slice adx' est.length cpx'] 25 (0, 0)))) (n := 10) (by kernel_rfl) ?_
                  refine Till.take (i := 0) (v := .pointer (some ⟨q.C, 3, none⟩)) rfl (by kernel_rfl) (fun _ _ _ h => h) (Or.inl ⟨by rfl, fun w hS => by go_simp⟩) HS.out ?_
                  simp only [Act.put, List.getElem_toArray, List.getElem_cons_zero, List.setIfInBounds_toArray, List.set_cons_zero, List.set_cons_succ]
                  refine Till.take (i := 1) (v := .slice adx' est.length cpx') rfl (by kernel_rfl) (fun _ _ _ h => h) (Or.inl ⟨by rfl, fun w hS => by have k0 := cell_blk (i := 3) hS rfl; go_simp⟩) HS.out ?_
                  simp only [Act.put, List.getElem_toArray, List.getElem_cons_zero, List.getElem_cons_succ, List.setIfInBounds_toArray, List.set_cons_zero, List.set_cons_succ]
                  refine Till.take (i := 2) (v := .int .i64 (s : Int)) rfl (by kernel_rfl) (fun _ _ _ h => h) (Or.inl ⟨by rfl, fun w hS => by go_simp⟩) HS.out ?_
                  simp only [Act.put, List.getElem_toArray, List.getElem_cons_zero, List.getElem_cons_succ, List.setIfInBounds_toArray, List.set_cons_zero, List.set_cons_succ]
                  refine Till.take (i := 3) (v := .int .i64 (t : Int)) rfl (by kernel_rfl) (fun _ _ _ h => h) (Or.inl ⟨by rfl, fun w hS => by go_simp⟩) HS.out ?_
                  simp only [Act.put, List.getElem_toArray, List.getElem_cons_zero, List.getElem_cons_succ, List.setIfInBounds_toArray, List.set_cons_zero, List.set_cons_succ]
                  refine Till.take (i := 4) (v := .slice (some ⟨wo.heap.size, 0, none⟩) 256 256) rfl (by kernel_rfl) (fun _ _ _ h => h) (Or.inl ⟨by rfl, fun w hS => by go_simp⟩) HS.out ?_
                  simp only [Act.put, List.getElem_toArray, List.getElem_cons_zero, List.getElem_cons_succ, List.setIfInBounds_toArray, List.set_cons_zero, List.set_cons_succ]
                  refine Till.all (rs := [5]) (by kernel_rfl) (by simp) (Each.cons rfl (fun K hK => ?_) Each.nil)
                  go_simp
                  refine (makeR_is (F := fun g => g < wr.heap.size) (w := wr.drew) HBI.out (leadL_len q.d s t) (fun g hg => hg)).mono ?_
                  rintro e w3 ⟨⟨se, rfl, hmk⟩, hb3'⟩
                  have hb3 : Below wr.heap.size wr w3 := (((Below.refl _ wr).drew).trans hb3')
                  have HSE := hid (HMK.out se hmk)
                  have HB3 := hid (HBW.out.below' hb3)
                  have HS3 := hid (show (fun W : World => W.heap[q.C]? = some (.cells #[.int .i64 q.d.next.length, .slice (some ⟨q.S, 0, none⟩) 1 1, .slice ade5 ends5.length cpe5, .slice adx' est.length cpx'] 25 (0, 0))) w3 from HB3.out.nb)
                  refine hK _ _ (fun _ => HS3.out) ?_
                  clear hK K hb3 hb3' hmk
                  have HNEW := hid (show es ++ edgesTo s (q.d.next.getD s []) p (t + 1) = est ++ [⟨(s : Int), (t : Int), se⟩] by rw [HEYE.out HNN.out, HSE.out, HEST.out, List.append_assoc])
                  have hnb3 := lt_of_heap HB3.out.nb
                  refine Till.take (i := 6) (v := .agg #[.int .i64 (s : Int), .int .i64 (t : Int), .int .u64 se.a, .int .u64 se.b, .int .u64 se.c, .int .u64 se.d]) rfl (by kernel_rfl) (fun _ _ _ h => h) (Or.inl ⟨by rfl, fun w hS => by go_simp⟩) HS3.out ?_
                  simp only [Act.put, List.getElem_toArray, List.getElem_cons_zero, List.getElem_cons_succ, List.setIfInBounds_toArray, List.set_cons_zero, List.set_cons_succ]
                  refine Till.all (rs := [7]) (by kernel_rfl) (by simp) (Each.cons rfl (fun K hK => ?_) Each.nil)
                  go_simp
                  have HS4 := hid (show (fun W : World => W.heap[q.C]? = some (.cells #[.int .i64 q.d.next.length, .slice (some ⟨q.S, 0, none⟩) 1 1, .slice ade5 ends5.length cpe5, .slice adx' est.length cpx'] 25 (0, 0))) (w3.alloc (.cells #[.int .i64 (s : Int), .int .i64 (t : Int), .int .u64 se.a, .int .u64 se.b, .int .u64 se.c, .int .u64 se.d] 67)) from (alloc_old hnb3).trans HS3.out)
                  refine hK _ _ (fun _ => HS4.out) ?_
                  clear hK K
                  refine Till.all (rs := [8]) (by kernel_rfl) (by simp) (Each.cons rfl (fun K hK => ?_) Each.nil)
                  refine step_append_lies _ rfl _ _ 23 rfl q.C 67 iE _ 6 48 Tryd.underlying23 HIE.out HZE.out.1 HZE.out.2.1 HZE.out.2.2 rfl (by decide) (.slice adx' est.length cpx') est.length (flatE est) (by simp [Act.eval]) (HB3.out.eds.alloc _) ⟨w3.heap.size, 0, none⟩ 1 1 (Edge.ls ⟨(s : Int), (t : Int), se⟩) (by simp [Act.eval]) rfl (World.news_of_block (heap_alloc_new w3 _)) (by simp [Value.oneCell']) (by omega) (by unfold maxLen; omega) (by omega) (by simp; omega) _ rfl ?_
                  intro g5 cap5 w5 ho5 hg5 hat5 hlt5
                  have hd5 := (HB3.out.grownL (i := 3) (v' := undef) HQ.out (.inr ⟨_, HB3.out.eds⟩) (by decide) hg5).2.1.trans HB3.out.nb
                  have HS5 := hid (show (fun W : World => W.heap[q.C]? = some (.cells #[.int .i64 q.d.next.length, .slice (some ⟨q.S, 0, none⟩) 1 1, .slice ade5 ends5.length cpe5, .slice adx' est.length cpx'] 25 (0, 0))) w5 from hd5)
                  have HO5 := hid ho5
                  have HG5 := hid hg5
                  refine hK _ _ (fun _ => HS5.out) ?_
                  clear hK K hat5 hlt5 ho5 hg5
                  have x1 := cell_blk (i := 3) hd5 rfl
                  have x2 := free_box (i := 3) hd5
                  clear hd5
                  refine Till.take (i := 9) (v := .pointer (some ⟨q.C, 3, none⟩)) rfl (by kernel_rfl) (fun _ _ _ h => h) (Or.inl ⟨by rfl, fun w hS => by go_simp⟩) HS5.out ?_
                  simp only [Act.put, List.getElem_toArray, List.getElem_cons_zero, List.getElem_cons_succ, List.setIfInBounds_toArray, List.set_cons_zero, List.set_cons_succ]
                  refine Till.all (rs := [10]) (by kernel_rfl) (by simp) (Each.cons rfl (fun K hK => ?_) Each.nil)
                  go_simp
                  refine hK _ _ (fun h => absurd h (by decide)) ?_
                  clear hK K x1 x2
                  refine Till.done (by kernel_rfl) ?_ _
                  have HBN := hid (HB3.out.addEdgeL (x := ⟨(s : Int), (t : Int), se⟩) HQ.out HO5.out HG5.out)
                  have HLN := hid (show (es ++ edgesTo s (q.d.next.getD s []) p (t + 1)).length = est.length + 1 by rw [HNEW.out]; simp)
                  go_wp2_with fail
                  go_roundw
                  case rel => exact ⟨t + 1, some ⟨g5, 0, none⟩, cap5, ht, by go_num, by rw [HLN.out, HNEW.out]; exact HBN.out⟩
                  case measure => simp [intOf]; omega
          · obtain rfl : t = q.d.next.length := by omega
            have HEM := hid (edgesTo_more (s := s) (row := q.d.next.getD s []) (p := p) (show q.d.next.length ≤ 1024 by omega) (fun y hy => by
              have h1 := (parts_few HP.out HOK.out).2 _ (getD_mem hs [])
              exact (h1.2 y hy).2))
            have HG := hid (HN.out.good hs hn40 HR20.out)
            rw [HEM.out] at HBK
            go_wp2_with fail
            go_roundw
            case rel => exact ⟨s + 1, ends5, _, ade5, cpe5, adx', cpx', hs, by go_num, HBK.out, by have h := HG.out; rw [← HE5.out] at h; exact h⟩
            case measure => simp [intOf]; omega
    · obtain rfl : s = q.d.next.length := by omega
      have HLAST := hid HN.out.last
      have hxl : es.length ≤ 800 := by have := HN.out.xlen; omega
      have hell := HN.out.elen
      have c3 := cell_blk (i := 3) HB.out.nb rfl
      have hbig : ¬ (65536 : Int) < (es.length : Int) := by omega
      have HTU := hid (show Turn (fun g => g = q.w.heap.size + 1) wr (wr.setRow (q.w.heap.size + 1) #[.int .i64 q.d.next.length, .slice (some ⟨q.S, 0, none⟩) 1 1, .slice ade ends.length cpe, .slice adx es.length cpx]) from turn_rowB (S := fun g => g = q.w.heap.size + 1) rfl _)
      have H1 := hid (setRow_heap HB.out.res #[.int .i64 q.d.next.length, .slice (some ⟨q.S, 0, none⟩) 1 1, .slice ade ends.length cpe, .slice adx es.length cpx])
      go_upto_region 23 with fail
      go_step
      refine wpList_load_blk rfl 25 (.tmp 4) rfl 4 infoNfa _ Tryd.underlying25 rfl q.C rfl 25 _ HB.out.nb rfl ?_
      refine wpList_store_blk rfl 25 (.tmp 2) (.tmp 89) rfl 4 infoNfa (q.w.heap.size + 1) 25 _ HB.out.res rfl #[.int .i64 q.d.next.length, .slice (some ⟨q.S, 0, none⟩) 1 1, .slice ade ends.length cpe, .slice adx es.length cpx] (by rfl) (by rfl) rfl rfl ?_
      generalize wr.setRow (q.w.heap.size + 1) #[.int .i64 q.d.next.length, .slice (some ⟨q.S, 0, none⟩) 1 1, .slice ade ends.length cpe, .slice adx es.length cpx] = W5 at *
      go_wp2_with fail
      refine bodyPost_ret (results_cell_one (ty := 25) rfl _ _ (q.w.heap.size + 1) 25 _ (0, 0) _ rfl H1.out Tryd.underlying25 rfl (by kernel_rfl)) rfl ?_
      obtain ⟨r1, r2⟩ := backR_ends HB.out HQ.out (by omega) hxl HTU.out
      rw [HXR.out, HLAST.out]
      exact ⟨_, _, _, _, rfl, r1, r2⟩
/-- the reference's Back makes what dfa.Back makes, of an automaton of few states -/
theorem backR_any {F : Nat → Prop} {w : World} {a b c : Value} {d : Dfa} (hd : DfaIn F w a b c d) (hF : ∀ g, F g → g < w.heap.size) (hn40 : d.next.length ≤ 40) (hr20 : ∀ row ∈ d.next, row.length ≤ 20) :
    Calls Tryd.prog 23 #[.agg #[a, b, c]] w (TextPost w (backM d)) := by
  by_cases hok : dfaOk d = true
  · rcases hx : setsOf d.cls with _ | p
    · have := dfaOk_none hx
      rw [hok] at this
      cases this
    · rw [back_of hok hx]
      exact backR_main hd hF hok hx hn40 hr20
  · rw [back_bad (by simpa using hok)]
    exact backR_err hd hF (by simpa using hok)
end Go.Proofs.YtfjomnhdmkbkiaaDoor.Im
