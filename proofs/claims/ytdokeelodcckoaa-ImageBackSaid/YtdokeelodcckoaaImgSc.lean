/-
  Whether two transducers are the same, as far as they are looked at.
-/
import Derived.Test.YtdokeelodcckoaaImgSb
namespace Go.Proofs.Ytdokeelodcckoaa.Im
open Go.RowKit Go.Lib

/-- the same, as far as there are states -/
structure SqEq (q q' : Sq) : Prop where
  front : q.front = q'.front
  next : q.next = q'.next
  olen : q.outs.length = q'.outs.length
  outs : q.outs.take q.next.length = q'.outs.take q.next.length
  fin : q.fin = q'.fin
  tail : q.tail = q'.tail
theorem SqEq.refl (q : Sq) : SqEq q q := ⟨rfl, rfl, rfl, rfl, rfl, rfl⟩
theorem SqEq.eq {q q' : Sq} (h : SqEq q q') (hl : q.outs.length ≤ q.next.length) : q = q' := by
  obtain ⟨f, n, o, e, t⟩ := q
  obtain ⟨f', n', o', e', t'⟩ := q'
  obtain ⟨h1, h2, h3, h4, h5, h6⟩ := h
  simp only at h1 h2 h3 h4 h5 h6 hl
  rw [List.take_of_length_le hl, List.take_of_length_le (by omega)] at h4
  subst h1
  subst h2
  subst h4
  subst h5
  subst h6
  rfl

set_option maxRecDepth 100000 in
set_option maxHeartbeats 4000000 in
theorem seq_same {F G : Nat → Prop} {w : World} {f a b c d f' a' b' c' d' : Value} {s s' : Sq} (h : SqIn F w f a b c d s) (h' : SqIn G w f' a' b' c' d' s') (hF : ∀ g, F g → g < w.heap.size) (hG : ∀ g, G g → g < w.heap.size) :
    Calls Try.prog 33 #[.agg #[f, a, b, c, d], .agg #[f', a', b', c', d']] w (Tells (SqEq s s') w) := by
  obtain ⟨fr, nx, ou, fi, ta⟩ := s
  obtain ⟨fr', nx', ou', fi', ta'⟩ := s'
  obtain ⟨x1, p1, x2, p2, x3, p3, x4, p4, rfl, rfl, rfl, rfl, rfl⟩ := h.shape
  obtain ⟨y1, q1, y2, q2, y3, q3, y4, q4, rfl, rfl, rfl, rfl, rfl⟩ := h'.shape
  dsimp only
  generalize hW0 : (w.alloc (.cells #[.string ⟨fr.toArray⟩, .slice x1 nx.length p1, .slice x2 ou.length p2, .slice x3 fi.length p3, .slice x4 ta.length p4] 50)).alloc (.cells #[.string ⟨fr'.toArray⟩, .slice y1 nx'.length q1, .slice y2 ou'.length q2, .slice y3 fi'.length q3, .slice y4 ta'.length q4] 50) = W0
  have hDb : W0.heap[w.heap.size]? = some (.cells #[.string ⟨fr.toArray⟩, .slice x1 nx.length p1, .slice x2 ou.length p2, .slice x3 fi.length p3, .slice x4 ta.length p4] 50 (0, 0)) := by rw [← hW0]; exact heap_alloc2_old _ _ _
  have hDc : W0.heap[w.heap.size + 1]? = some (.cells #[.string ⟨fr'.toArray⟩, .slice y1 nx'.length q1, .slice y2 ou'.length q2, .slice y3 fi'.length q3, .slice y4 ta'.length q4] 50 (0, 0)) := by rw [← hW0]; exact heap_alloc2_new _ _ _
  have hB0 : Below w.heap.size w W0 := by rw [← hW0]; exact ((Below.refl _ _).alloc (Nat.le_refl _) _).alloc (by simp) _
  have HW0 := hid hW0
  have H1 := hid (h.frame (F' := F) (w' := W0) (fun _ h => h) (fun g hg _ => hB0.block g (hF g hg)))
  have H2 := hid (h'.frame (F' := G) (w' := W0) (fun _ h => h) (fun g hg _ => hB0.block g (hG g hg)))
  obtain ⟨e0, e1, e2, e3, e4⟩ := scells hDb
  obtain ⟨e5, e6, e7, e8, e9⟩ := scells hDc
  clear h h' hW0
  go_enter Try.func33, Try.ntmps33
  by_cases hfr : fr = fr'
  · subst hfr
    by_cases hnl : nx.length = nx'.length
    · have hnb : ((nx.length : Int) != (nx'.length : Int)) = false := by simp [hnl]
      have HNL := hid hnl
      clear hnl
      by_cases hol : ou.length = ou'.length
      · have hob : ((ou.length : Int) != (ou'.length : Int)) = false := by simp [hol]
        have HOL := hid hol
        clear hol
        go_wp2_with fail
        rw [HW0.out]
        go_wp2_with fail
        refine (bools_same H1.out.fin H2.out.fin).mono ?_
        rintro e w2 ⟨rfl, n2, rfl⟩
        dsimp only
        by_cases hfi : fi = fi'
        · subst hfi
          rw [show decide (fi = fi) = true from decide_eq_true rfl]
          clear hnb hob
          go_wp2_with fail
          refine (texts_same (H1.out.tail.draw n2) (H2.out.tail.draw n2)).mono ?_
          rintro e w3 ⟨rfl, n3, rfl⟩
          dsimp only
          by_cases hta : ta = ta'
          · subst hta
            rw [show decide (ta = ta) = true from decide_eq_true rfl]
            have hB2 : Below w.heap.size w ((W0.drewN n2).drewN n3) := below_drewN (below_drewN hB0 _) _
            have hh2 : ((W0.drewN n2).drewN n3).heap = W0.heap := rfl
            obtain ⟨ad1, cp1, ee1, hm1, hr1⟩ := H1.out.next
            obtain ⟨ad2, cp2, ee2, hm2, hr2⟩ := H2.out.next
            obtain ⟨ad3, cp3, ee3, hm3, hr3⟩ := H1.out.outs
            obtain ⟨ad4, cp4, ee4, hm4, hr4⟩ := H2.out.outs
            cases ee1
            cases ee2
            cases ee3
            cases ee4
            have HR1 := hid hr1
            have HR2 := hid hr2
            have HR3 := hid hr3
            have HR4 := hid hr4
            unfold maxLen at hm1 hm2 hm3 hm4
            clear hr1 hr2 hr3 hr4 e0 e1 e2 e3 e4 e5 e6 e7 e8 e9
            have HDB := hid hDb
            have HDC := hid hDc
            clear hDb hDc
            go_wp2_with fail
            generalize hW2 : (W0.drewN n2).drewN n3 = W2 at *
            try rw [World.drewN_drewN] at hW2
            try rw [hW2]
            clear hW2
            go_loopw [5] (fun v wr => ∃ k : Nat, k ≤ nx.length ∧ v = .int .i64 k ∧ Below w.heap.size w wr ∧ wr.heap = W0.heap ∧ Hid (nx.take k = nx'.take k) ∧ Hid (ou.take k = ou'.take k)) (fun v _ => nx.length - (intOf v).toNat)
            case atStart => exact ⟨0, Nat.zero_le _, rfl, hB2, hh2, hid (by simp), hid (by simp)⟩
            case round =>
              obtain ⟨k, hk, rfl, hbr, hhr, htk, hto⟩ := hrel
              obtain ⟨e0, e1, e2, e3, e4⟩ := scells (show wr.heap[w.heap.size]? = _ by rw [hhr]; exact HDB.out)
              obtain ⟨e5, e6, e7, e8, e9⟩ := scells (show wr.heap[w.heap.size + 1]? = _ by rw [hhr]; exact HDC.out)
              by_cases hlt : k < nx.length
              · have hlt2 : k < nx'.length := by have := HNL.out; omega
                have hlt2' : (k : Int) < (nx'.length : Int) := by omega
                obtain ⟨g, off, rfl, hFg, v1, hv1, hrow1⟩ := HR1.out.at' hlt
                obtain ⟨g2, off2, rfl, hFg2, v2, hv2, hrow2⟩ := HR2.out.at' hlt2
                have hw1 := (cell_heap (w' := wr) (by rw [hhr])).trans hv1
                have hw2 := (cell_heap (w' := wr) (by rw [hhr])).trans hv2
                have HW1 := hid (fun n : Nat => IntsIn.frame (w' := wr.drewN n) hrow1 (fun _ h => h) (fun g _ _ => by show wr.heap[g]? = _; rw [hhr]))
                have HW2 := hid (fun n : Nat => IntsIn.frame (w' := wr.drewN n) hrow2 (fun _ h => h) (fun g _ _ => by show wr.heap[g]? = _; rw [hhr]))
                obtain ⟨_, _, rfl, _, _⟩ := hrow1
                obtain ⟨_, _, rfl, _, _⟩ := hrow2
                clear hv1 hv2
                by_cases he : nx[k] = nx'[k]
                · have HB := hid (show decide (nx[k] = nx'[k]) = true from decide_eq_true he)
                  have HN := hid (show nx.take (k + 1) = nx'.take (k + 1) by rw [take_succ' _ _ hlt, take_succ' _ _ hlt2, htk.out, he])
                  clear he
                  by_cases hlo : k < ou.length
                  · have hlo2 : k < ou'.length := by have := HOL.out; omega
                    have hlo' : (k : Int) < (ou.length : Int) := by omega
                    have hlo2' : (k : Int) < (ou'.length : Int) := by omega
                    obtain ⟨g3, off3, rfl, hFg3, v3, hv3, hrow3⟩ := HR3.out.at' hlo
                    obtain ⟨g4, off4, rfl, hFg4, v4, hv4, hrow4⟩ := HR4.out.at' hlo2
                    have hw3 := (cell_heap (w' := wr) (by rw [hhr])).trans hv3
                    have hw4 := (cell_heap (w' := wr) (by rw [hhr])).trans hv4
                    have HW3 := hid (fun n : Nat => StrsIn.frame (w' := wr.drewN n) hrow3 (fun _ h => h) (fun g _ _ => by show wr.heap[g]? = _; rw [hhr]))
                    have HW4 := hid (fun n : Nat => StrsIn.frame (w' := wr.drewN n) hrow4 (fun _ h => h) (fun g _ _ => by show wr.heap[g]? = _; rw [hhr]))
                    obtain ⟨_, _, rfl, _, _⟩ := hrow3
                    obtain ⟨_, _, rfl, _, _⟩ := hrow4
                    clear hv3 hv4
                    by_cases ht : ou[k] = ou'[k]
                    · have HC := hid (show decide (ou[k] = ou'[k]) = true from decide_eq_true ht)
                      have HM := hid (show ou.take (k + 1) = ou'.take (k + 1) by rw [take_succ' _ _ hlo, take_succ' _ _ hlo2, hto.out, ht])
                      clear ht
                      go_upto_region 6 with fail
                      go_quiet (first | (go_at_call 60; exact quiet_draw (HB.out ▸ ints_same (HW1.out _) (HW2.out _))) | (go_at_call 59; exact quiet_draw (HC.out ▸ texts_same (HW3.out _) (HW4.out _))))
                      go_wp2
                      go_roundw
                      case rel => exact ⟨k + 1, by omega, by go_num, below_drewN hbr _, hhr, HN, HM⟩
                      case measure => simp [intOf]; omega
                    · have HC := hid (show decide (ou[k] = ou'[k]) = false from decide_eq_false ht)
                      have HM := hid (show ¬ SqEq ⟨fr, nx, ou, fi, ta⟩ ⟨fr, nx', ou', fi, ta⟩ from fun e => ht (by
                        have h1 := congrArg (fun l => l[k]?) e.outs
                        simp only [List.getElem?_take, if_pos hlt, List.getElem?_eq_getElem hlo, List.getElem?_eq_getElem hlo2] at h1
                        exact Option.some.inj h1))
                      clear ht
                      go_upto_region 6 with fail
                      go_quiet (first | (go_at_call 60; exact quiet_draw (HB.out ▸ ints_same (HW1.out _) (HW2.out _))) | (go_at_call 59; exact quiet_draw (HC.out ▸ texts_same (HW3.out _) (HW4.out _))))
                      go_wp2
                      go_ret
                      exact tells_no HM.out (below_drewN hbr _)
                  · have hlo' : ¬ (k : Int) < (ou.length : Int) := by omega
                    have HM := hid (show ou.take (k + 1) = ou'.take (k + 1) by
                      have h := hto.out
                      rw [List.take_of_length_le (by omega), List.take_of_length_le (by have := HOL.out; omega)] at h
                      rw [List.take_of_length_le (by omega), List.take_of_length_le (by have := HOL.out; omega), h])
                    go_upto_region 6 with fail
                    go_quiet ((go_at_call 60; exact quiet_draw (HB.out ▸ ints_same (HW1.out _) (HW2.out _))))
                    go_wp2
                    go_roundw
                    case rel => exact ⟨k + 1, by omega, by go_num, below_drewN hbr _, hhr, HN, HM⟩
                    case measure => simp [intOf]; omega
                · have HB := hid (show decide (nx[k] = nx'[k]) = false from decide_eq_false he)
                  have HN := hid (show ¬ SqEq ⟨fr, nx, ou, fi, ta⟩ ⟨fr, nx', ou', fi, ta⟩ from fun e => he (by have h := e.next; simp only at h; subst h; rfl))
                  clear he
                  go_upto_region 6 with fail
                  go_quiet ((go_at_call 60; exact quiet_draw (HB.out ▸ ints_same (HW1.out _) (HW2.out _))))
                  go_wp2
                  go_ret
                  exact tells_no HN.out (below_drewN hbr _)
              · have HN := hid (show SqEq ⟨fr, nx, ou, fi, ta⟩ ⟨fr, nx', ou', fi, ta⟩ from ⟨rfl, by
                  have h := htk.out
                  rw [List.take_of_length_le (by omega), List.take_of_length_le (by have := HNL.out; omega)] at h
                  exact h, HOL.out, by
                  obtain rfl : k = nx.length := by omega
                  exact hto.out, rfl, rfl⟩)
                go_wp2
                go_ret
                exact tells_yes HN.out hbr
          · rw [show decide (ta = ta') = false from decide_eq_false hta]
            go_wp2
            go_ret
            exact tells_no (fun e => hta e.tail) (by first | exact below_drewN (below_drewN hB0 _) _ | exact below_drewN hB0 _)
        · rw [show decide (fi = fi') = false from decide_eq_false hfi]
          go_wp2
          go_ret
          exact tells_no (fun e => hfi e.fin) (below_drewN hB0 _)
      · have hob : ((ou.length : Int) != (ou'.length : Int)) = true := by simp; omega
        have HNO := hid hol
        clear hol
        go_wp2_with fail
        rw [HW0.out]
        go_wp2
        go_ret
        exact tells_no (fun e => HNO.out e.olen) hB0
    · have hnb : ((nx.length : Int) != (nx'.length : Int)) = true := by simp; omega
      have HNO := hid hnl
      clear hnl
      go_wp2_with fail
      rw [HW0.out]
      go_wp2
      go_ret
      exact tells_no (fun e => HNO.out (by have h := e.next; simp only at h; rw [h])) hB0
  · have hfb : (fr != fr') = true := by simp [hfr]
    go_wp2_with fail
    rw [HW0.out]
    go_wp2
    go_ret
    exact tells_no (fun e => hfr e.front) hB0
end Go.Proofs.Ytdokeelodcckoaa.Im
