/-
  The contracts of the comparisons: rows of numbers, of texts, of truths, automatons, seqs.
-/
import Derived.Test.YtdokeelodcckoaaImgAw
import Derived.BigQuiet
namespace Go.Proofs.Ytdokeelodcckoaa.Im
open Go.RowKit Go.Lib

set_option maxRecDepth 100000 in
set_option maxHeartbeats 2000000 in
theorem ints_same {F G : Nat → Prop} {w : World} {v u : Value} {l m : List Int} (h1 : IntsIn F w v l) (h2 : IntsIn G w u m) :
    Calls Try.prog 60 #[v, u] w fun e w' => e = .returned (.bool (decide (l = m))) ∧ ∃ q, w' = w.drewN q := by
  obtain ⟨ad1, cp1, rfl, hm1, hr1⟩ := h1
  obtain ⟨ad2, cp2, rfl, hm2, hr2⟩ := h2
  unfold maxLen at hm1 hm2
  have HR1 := hid hr1
  have HR2 := hid hr2
  clear hr1 hr2
  by_cases hl : l.length = m.length
  · have HL := hid hl
    have hlb : ((l.length : Int) != (m.length : Int)) = false := by simp [hl]
    clear hl
    go_enter Try.func60, Try.ntmps60
    go_wp2_with fail
    clear hlb
    go_loopw [5] (fun v wr => ∃ k q : Nat, k ≤ l.length ∧ v = .int .i64 k ∧ wr = w.drewN q ∧ Hid (l.take k = m.take k)) (fun v _ => l.length - (intOf v).toNat)
    case atStart => exact ⟨0, 0, Nat.zero_le _, rfl, rfl, hid (by simp)⟩
    case round =>
      obtain ⟨k, q, hk, rfl, rfl, htk⟩ := hrel
      by_cases hlt : k < l.length
      · have hlt2 : k < m.length := by have := HL.out; omega
        have hlt2' : (k : Int) < (m.length : Int) := by omega
        obtain ⟨g, off, rfl, hFg, x, hx, rfl⟩ := HR1.out.at' hlt
        obtain ⟨g2, off2, rfl, hFg2, x2, hx2, rfl⟩ := HR2.out.at' hlt2
        by_cases he : l[k] = m[k]
        · have hb : (l[k] != m[k]) = false := by simp [he]
          have HN := hid (show l.take (k + 1) = m.take (k + 1) by rw [take_succ' _ _ hlt, take_succ' _ _ hlt2, htk.out, he])
          clear he
          go_upto_region 6 with fail
          go_quiet (fail)
          go_wp2
          go_roundw
          case rel => exact ⟨k + 1, _, by omega, by go_num, (by first | rfl | exact World.drewN_drewN _ _ _), HN⟩
          case measure => simp [intOf]; omega
        · have hb : (l[k] != m[k]) = true := by simp [he]
          have HN := hid (show decide (l = m) = false from decide_eq_false (fun e => he (by subst e; rfl)))
          clear he
          go_upto_region 6 with fail
          go_quiet (fail)
          go_wp2
          go_ret
          exact ⟨by rw [HN.out] <;> rfl, _, (by first | rfl | exact World.drewN_drewN _ _ _)⟩
      · have HN := hid (show decide (l = m) = true from decide_eq_true (by
          have h := htk.out
          rw [List.take_of_length_le (by omega), List.take_of_length_le (by have := HL.out; omega)] at h
          exact h))
        go_wp2
        go_ret
        exact ⟨by rw [HN.out] <;> rfl, _, rfl⟩
  · have HN := hid (show decide (l = m) = false from decide_eq_false (fun e => hl (by rw [e])))
    have hlb : ((l.length : Int) != (m.length : Int)) = true := by simp; omega
    clear hl
    go_enter Try.func60, Try.ntmps60
    go_wp2
    go_ret
    exact ⟨by rw [HN.out] <;> rfl, 0, rfl⟩

set_option maxRecDepth 100000 in
set_option maxHeartbeats 2000000 in
theorem texts_same {F G : Nat → Prop} {w : World} {v u : Value} {l m : List (List B)} (h1 : StrsIn F w v l) (h2 : StrsIn G w u m) :
    Calls Try.prog 59 #[v, u] w fun e w' => e = .returned (.bool (decide (l = m))) ∧ ∃ q, w' = w.drewN q := by
  obtain ⟨ad1, cp1, rfl, hm1, hr1⟩ := h1
  obtain ⟨ad2, cp2, rfl, hm2, hr2⟩ := h2
  unfold maxLen at hm1 hm2
  have HR1 := hid hr1
  have HR2 := hid hr2
  clear hr1 hr2
  by_cases hl : l.length = m.length
  · have HL := hid hl
    have hlb : ((l.length : Int) != (m.length : Int)) = false := by simp [hl]
    clear hl
    go_enter Try.func59, Try.ntmps59
    go_wp2_with fail
    clear hlb
    go_loopw [5] (fun v wr => ∃ k q : Nat, k ≤ l.length ∧ v = .int .i64 k ∧ wr = w.drewN q ∧ Hid (l.take k = m.take k)) (fun v _ => l.length - (intOf v).toNat)
    case atStart => exact ⟨0, 0, Nat.zero_le _, rfl, rfl, hid (by simp)⟩
    case round =>
      obtain ⟨k, q, hk, rfl, rfl, htk⟩ := hrel
      by_cases hlt : k < l.length
      · have hlt2 : k < m.length := by have := HL.out; omega
        have hlt2' : (k : Int) < (m.length : Int) := by omega
        obtain ⟨g, off, rfl, hFg, x, hx, rfl⟩ := HR1.out.at' hlt
        obtain ⟨g2, off2, rfl, hFg2, x2, hx2, rfl⟩ := HR2.out.at' hlt2
        by_cases he : l[k] = m[k]
        · have HE := hid he
          have HN := hid (show l.take (k + 1) = m.take (k + 1) by rw [take_succ' _ _ hlt, take_succ' _ _ hlt2, htk.out, he])
          clear he
          go_upto_region 6 with fail
          go_quiet (fail)
          rw [beq_iff_eq.2 HE.out]
          go_wp2
          go_roundw
          case rel => exact ⟨k + 1, _, by omega, by go_num, (by first | rfl | exact World.drewN_drewN _ _ _), HN⟩
          case measure => simp [intOf]; omega
        · have HE := hid he
          have HN := hid (show decide (l = m) = false from decide_eq_false (fun e => he (by subst e; rfl)))
          clear he
          go_upto_region 6 with fail
          go_quiet (fail)
          rw [beq_eq_false_iff_ne.2 HE.out]
          go_wp2
          go_ret
          exact ⟨by rw [HN.out] <;> rfl, _, (by first | rfl | exact World.drewN_drewN _ _ _)⟩
      · have HN := hid (show decide (l = m) = true from decide_eq_true (by
          have h := htk.out
          rw [List.take_of_length_le (by omega), List.take_of_length_le (by have := HL.out; omega)] at h
          exact h))
        go_wp2
        go_ret
        exact ⟨by rw [HN.out] <;> rfl, _, rfl⟩
  · have HN := hid (show decide (l = m) = false from decide_eq_false (fun e => hl (by rw [e])))
    have hlb : ((l.length : Int) != (m.length : Int)) = true := by simp; omega
    clear hl
    go_enter Try.func59, Try.ntmps59
    go_wp2
    go_ret
    exact ⟨by rw [HN.out] <;> rfl, 0, rfl⟩

set_option maxRecDepth 100000 in
set_option maxHeartbeats 2000000 in
theorem bools_same {F G : Nat → Prop} {w : World} {v u : Value} {l m : List Bool} (h1 : BoolsIn F w v l) (h2 : BoolsIn G w u m) :
    Calls Try.prog 58 #[v, u] w fun e w' => e = .returned (.bool (decide (l = m))) ∧ ∃ q, w' = w.drewN q := by
  obtain ⟨ad1, cp1, rfl, hm1, hr1⟩ := h1
  obtain ⟨ad2, cp2, rfl, hm2, hr2⟩ := h2
  unfold maxLen at hm1 hm2
  have HR1 := hid hr1
  have HR2 := hid hr2
  clear hr1 hr2
  by_cases hl : l.length = m.length
  · have HL := hid hl
    have hlb : ((l.length : Int) != (m.length : Int)) = false := by simp [hl]
    clear hl
    go_enter Try.func58, Try.ntmps58
    go_wp2_with fail
    clear hlb
    go_loopw [5] (fun v wr => ∃ k q : Nat, k ≤ l.length ∧ v = .int .i64 k ∧ wr = w.drewN q ∧ Hid (l.take k = m.take k)) (fun v _ => l.length - (intOf v).toNat)
    case atStart => exact ⟨0, 0, Nat.zero_le _, rfl, rfl, hid (by simp)⟩
    case round =>
      obtain ⟨k, q, hk, rfl, rfl, htk⟩ := hrel
      by_cases hlt : k < l.length
      · have hlt2 : k < m.length := by have := HL.out; omega
        have hlt2' : (k : Int) < (m.length : Int) := by omega
        obtain ⟨g, off, rfl, hFg, x, hx, rfl⟩ := HR1.out.at' hlt
        obtain ⟨g2, off2, rfl, hFg2, x2, hx2, rfl⟩ := HR2.out.at' hlt2
        by_cases he : l[k] = m[k]
        · have HE := hid he
          have HN := hid (show l.take (k + 1) = m.take (k + 1) by rw [take_succ' _ _ hlt, take_succ' _ _ hlt2, htk.out, he])
          clear he
          go_upto_region 6 with fail
          go_quiet (fail)
          rw [beq_iff_eq.2 HE.out]
          go_wp2
          go_roundw
          case rel => exact ⟨k + 1, _, by omega, by go_num, (by first | rfl | exact World.drewN_drewN _ _ _), HN⟩
          case measure => simp [intOf]; omega
        · have HE := hid he
          have HN := hid (show decide (l = m) = false from decide_eq_false (fun e => he (by subst e; rfl)))
          clear he
          go_upto_region 6 with fail
          go_quiet (fail)
          rw [beq_eq_false_iff_ne.2 HE.out]
          go_wp2
          go_ret
          exact ⟨by rw [HN.out] <;> rfl, _, (by first | rfl | exact World.drewN_drewN _ _ _)⟩
      · have HN := hid (show decide (l = m) = true from decide_eq_true (by
          have h := htk.out
          rw [List.take_of_length_le (by omega), List.take_of_length_le (by have := HL.out; omega)] at h
          exact h))
        go_wp2
        go_ret
        exact ⟨by rw [HN.out] <;> rfl, _, rfl⟩
  · have HN := hid (show decide (l = m) = false from decide_eq_false (fun e => hl (by rw [e])))
    have hlb : ((l.length : Int) != (m.length : Int)) = true := by simp; omega
    clear hl
    go_enter Try.func58, Try.ntmps58
    go_wp2
    go_ret
    exact ⟨by rw [HN.out] <;> rfl, 0, rfl⟩

end Go.Proofs.Ytdokeelodcckoaa.Im

namespace Go.Proofs.Ytdokeelodcckoaa.Im
open Go.RowKit Go.Lib

/-- the answer, yes just if P -/
def Tells (P : Prop) (w : World) (e : Ending) (w' : World) : Prop := (∃ b : Bool, e = .returned (.bool b) ∧ (b = true ↔ P)) ∧ Below w.heap.size w w'
theorem quiet_draw {P : Program} {f : FuncId} {args : Array Value} {w : World} {n : Nat} {v : Value}
    (h : Calls P f args (w.drewN n) fun e w' => e = .returned v ∧ ∃ q, w' = (w.drewN n).drewN q) : Calls P f args (w.drewN n) fun e w'' => e = .returned v ∧ ∃ m, w'' = w.drewN m :=
  h.mono fun _ _ ⟨he, q, hq⟩ => ⟨he, n + q, by rw [hq, World.drewN_drewN]⟩
theorem IntsIn.draw {F : Nat → Prop} {w : World} {v : Value} {l : List Int} (h : IntsIn F w v l) (n : Nat) : IntsIn F (w.drewN n) v l := h.frame (fun _ h => h) (fun _ _ _ => rfl)
theorem BoolsIn.draw {F : Nat → Prop} {w : World} {v : Value} {l : List Bool} (h : BoolsIn F w v l) (n : Nat) : BoolsIn F (w.drewN n) v l := h.frame (fun _ h => h) (fun _ _ _ => rfl)
theorem StrsIn.draw {F : Nat → Prop} {w : World} {v : Value} {l : List (List B)} (h : StrsIn F w v l) (n : Nat) : StrsIn F (w.drewN n) v l := h.frame (fun _ h => h) (fun _ _ _ => rfl)
theorem tells_no {P : Prop} {w w' : World} (h : ¬ P) (hb : Below w.heap.size w w') : Tells P w (.returned (.bool false)) w' := ⟨⟨false, rfl, by simp [h]⟩, hb⟩
theorem tells_yes {P : Prop} {w w' : World} (h : P) (hb : Below w.heap.size w w') : Tells P w (.returned (.bool true)) w' := ⟨⟨true, rfl, by simp [h]⟩, hb⟩

set_option maxRecDepth 100000 in
set_option maxHeartbeats 2000000 in
theorem dfa_same {F G : Nat → Prop} {w : World} {a b c a' b' c' : Value} {d d' : Dfa} (h : DfaIn F w a b c d) (h' : DfaIn G w a' b' c' d') (hF : ∀ g, F g → g < w.heap.size) (hG : ∀ g, G g → g < w.heap.size) :
    Calls Try.prog 34 #[.agg #[a, b, c], .agg #[a', b', c']] w (Tells (d = d') w) := by
  obtain ⟨cl, nx, fi⟩ := d
  obtain ⟨cl', nx', fi'⟩ := d'
  obtain ⟨x1, p1, x2, p2, x3, p3, rfl, rfl, rfl⟩ := h.shape
  obtain ⟨y1, q1, y2, q2, y3, q3, rfl, rfl, rfl⟩ := h'.shape
  dsimp only
  generalize hW0 : (w.alloc (.cells #[.slice x1 cl.length p1, .slice x2 nx.length p2, .slice x3 fi.length p3] 46)).alloc (.cells #[.slice y1 cl'.length q1, .slice y2 nx'.length q2, .slice y3 fi'.length q3] 46) = W0
  have hDb : W0.heap[w.heap.size]? = some (.cells #[.slice x1 cl.length p1, .slice x2 nx.length p2, .slice x3 fi.length p3] 46 (0, 0)) := by rw [← hW0]; exact heap_alloc2_old _ _ _
  have hDc : W0.heap[w.heap.size + 1]? = some (.cells #[.slice y1 cl'.length q1, .slice y2 nx'.length q2, .slice y3 fi'.length q3] 46 (0, 0)) := by rw [← hW0]; exact heap_alloc2_new _ _ _
  have hB0 : Below w.heap.size w W0 := by rw [← hW0]; exact ((Below.refl _ _).alloc (Nat.le_refl _) _).alloc (by simp) _
  have HW0 := hid hW0
  have H1 := hid (h.frame (F' := F) (w' := W0) (fun _ h => h) (fun g hg _ => hB0.block g (hF g hg)))
  have H2 := hid (h'.frame (F' := G) (w' := W0) (fun _ h => h) (fun g hg _ => hB0.block g (hG g hg)))
  obtain ⟨e0, e1, e2⟩ := dcells hDb
  obtain ⟨e3, e4, e5⟩ := dcells hDc
  clear h h' hW0
  go_enter Try.func34, Try.ntmps34
  go_wp2_with fail
  rw [HW0.out]
  refine (ints_same H1.out.cls H2.out.cls).mono ?_
  rintro e w1 ⟨rfl, n1, rfl⟩
  dsimp only
  by_cases hcl : cl = cl'
  · subst hcl
    rw [show decide (cl = cl) = true from decide_eq_true rfl]
    by_cases hnl : nx.length = nx'.length
    · have hnb : ((nx.length : Int) != (nx'.length : Int)) = false := by simp [hnl]
      have HNL := hid hnl
      clear hnl
      go_wp2_with fail
      refine (bools_same (H1.out.fin.draw n1) (H2.out.fin.draw n1)).mono ?_
      rintro e w2 ⟨rfl, n2, rfl⟩
      dsimp only
      by_cases hfi : fi = fi'
      · subst hfi
        rw [show decide (fi = fi) = true from decide_eq_true rfl]
        clear hnb
        have hB2 : Below w.heap.size w ((W0.drewN n1).drewN n2) := below_drewN (below_drewN hB0 _) _
        have hh2 : ((W0.drewN n1).drewN n2).heap = W0.heap := rfl
        have HN1 := hid H1.out.next
        have HN2 := hid H2.out.next
        obtain ⟨ad1, cp1, ee1, hm1, hr1⟩ := H1.out.next
        obtain ⟨ad2, cp2, ee2, hm2, hr2⟩ := H2.out.next
        cases ee1
        cases ee2
        have HR1 := hid hr1
        have HR2 := hid hr2
        unfold maxLen at hm1 hm2
        clear hr1 hr2 e0 e1 e2 e3 e4 e5
        have HDB := hid hDb
        have HDC := hid hDc
        clear hDb hDc
        go_wp2_with fail
        generalize hW2 : (W0.drewN n1).drewN n2 = W2 at *
        try rw [World.drewN_drewN] at hW2
        try rw [hW2]
        clear hW2
        go_loopw [5] (fun v wr => ∃ k : Nat, k ≤ nx.length ∧ v = .int .i64 k ∧ Below w.heap.size w wr ∧ wr.heap = W0.heap ∧ Hid (nx.take k = nx'.take k)) (fun v _ => nx.length - (intOf v).toNat)
        case atStart => exact ⟨0, Nat.zero_le _, rfl, hB2, hh2, hid (by simp)⟩
        case round =>
          obtain ⟨k, hk, rfl, hbr, hhr, htk⟩ := hrel
          obtain ⟨e0, e1, e2⟩ := dcells (show wr.heap[w.heap.size]? = _ by rw [hhr]; exact HDB.out)
          obtain ⟨e3, e4, e5⟩ := dcells (show wr.heap[w.heap.size + 1]? = _ by rw [hhr]; exact HDC.out)
          by_cases hlt : k < nx.length
          · have hlt2 : k < nx'.length := by have := HNL.out; omega
            have hlt2' : (k : Int) < (nx'.length : Int) := by omega
            obtain ⟨g, off, rfl, hFg, v1, hv1, hrow1⟩ := HR1.out.at' hlt
            obtain ⟨g2, off2, rfl, hFg2, v2, hv2, hrow2⟩ := HR2.out.at' hlt2
            have hw1 := (cell_heap (w' := wr) (by rw [hhr])).trans hv1
            have hw2 := (cell_heap (w' := wr) (by rw [hhr])).trans hv2
            have HW1 := hid (fun n : Nat => IntsIn.frame (w' := wr.drewN n) hrow1 (fun _ h => h) (fun g _ _ => by show wr.heap[g]? = _; rw [hhr]))
            have HW2 := hid (fun n : Nat => IntsIn.frame (w' := wr.drewN n) hrow2 (fun _ h => h) (fun g _ _ => by show wr.heap[g]? = _; rw [hhr]))
            obtain ⟨_, _, rfl, _, _⟩ := hrow1
            obtain ⟨_, _, rfl, _, _⟩ := hrow2
            clear hv1 hv2
            by_cases he : nx[k] = nx'[k]
            · have HB := hid (show decide (nx[k] = nx'[k]) = true from decide_eq_true he)
              have HN := hid (show nx.take (k + 1) = nx'.take (k + 1) by rw [take_succ' _ _ hlt, take_succ' _ _ hlt2, htk.out, he])
              clear he
              go_upto_region 6 with fail
              go_quiet ((go_at_call 60; exact quiet_draw (HB.out ▸ ints_same (HW1.out _) (HW2.out _))))
              go_wp2
              go_roundw
              case rel => exact ⟨k + 1, by omega, by go_num, below_drewN hbr _, hhr, HN⟩
              case measure => simp [intOf]; omega
            · have HB := hid (show decide (nx[k] = nx'[k]) = false from decide_eq_false he)
              have HN := hid (show ¬ ((⟨cl, nx, fi⟩ : Dfa) = ⟨cl, nx', fi⟩) from fun e => he (by cases e; rfl))
              clear he
              go_upto_region 6 with fail
              go_quiet ((go_at_call 60; exact quiet_draw (HB.out ▸ ints_same (HW1.out _) (HW2.out _))))
              go_wp2
              go_ret
              exact tells_no (fun e => HN.out (by first | exact e | (rw [e]))) (below_drewN hbr _)
          · have HN := hid (show (⟨cl, nx, fi⟩ : Dfa) = ⟨cl, nx', fi⟩ by
              have h := htk.out
              rw [List.take_of_length_le (by omega), List.take_of_length_le (by have := HNL.out; omega)] at h
              rw [h])
            go_wp2
            go_ret
            exact tells_yes (by first | exact HN.out | (have h := HN.out; simpa using h)) hbr
      · rw [show decide (fi = fi') = false from decide_eq_false hfi]
        go_wp2
        go_ret
        exact tells_no (fun e => hfi (by cases e; rfl)) (by first | exact below_drewN (below_drewN hB0 _) _ | exact below_drewN hB0 _)
    · have hnb : ((nx.length : Int) != (nx'.length : Int)) = true := by simp; omega
      have HNO := hid hnl
      clear hnl
      go_wp2
      go_ret
      exact tells_no (fun e => HNO.out (by cases e; rfl)) (below_drewN hB0 _)
  · rw [show decide (cl = cl') = false from decide_eq_false hcl]
    go_wp2
    go_ret
    exact tells_no (fun e => hcl (by cases e; rfl)) (below_drewN hB0 _)
end Go.Proofs.Ytdokeelodcckoaa.Im

namespace Go.Proofs.Ytdokeelodcckoaa.Im
open Go.RowKit Go.Lib

/-- the same, as far as there are states -/
structure SqEq (q q' : Sq) : Prop where
  front : q.front = q'.front
  next : q.next = q'.next
  olen : q.outs.length = q'.outs.length
  outs : q.outs.take q.next.length = q'.outs.take q.next.length
  fin : q.fin = q'.fin
  tail : q.tail = q'.tail
theorem SqEq.refl (q : Sq) : SqEq q q := ⟨rfl, rfl, rfl, rfl, rfl, rfl⟩
theorem SqEq.eq {q q' : Sq} (h : SqEq q q') (hl : q.outs.length ≤ q.next.length) : q = q' := by
  obtain ⟨f, n, o, e, t⟩ := q
  obtain ⟨f', n', o', e', t'⟩ := q'
  obtain ⟨h1, h2, h3, h4, h5, h6⟩ := h
  simp only at h1 h2 h3 h4 h5 h6 hl
  rw [List.take_of_length_le hl, List.take_of_length_le (by omega)] at h4
  subst h1
  subst h2
  subst h4
  subst h5
  subst h6
  rfl

set_option maxRecDepth 100000 in
set_option maxHeartbeats 4000000 in
theorem seq_same {F G : Nat → Prop} {w : World} {f a b c d f' a' b' c' d' : Value} {s s' : Sq} (h : SqIn F w f a b c d s) (h' : SqIn G w f' a' b' c' d' s') (hF : ∀ g, F g → g < w.heap.size) (hG : ∀ g, G g → g < w.heap.size) :
    Calls Try.prog 33 #[.agg #[f, a, b, c, d], .agg #[f', a', b', c', d']] w (Tells (SqEq s s') w) := by
  obtain ⟨fr, nx, ou, fi, ta⟩ := s
  obtain ⟨fr', nx', ou', fi', ta'⟩ := s'
  obtain ⟨x1, p1, x2, p2, x3, p3, x4, p4, rfl, rfl, rfl, rfl, rfl⟩ := h.shape
  obtain ⟨y1, q1, y2, q2, y3, q3, y4, q4, rfl, rfl, rfl, rfl, rfl⟩ := h'.shape
  dsimp only
  generalize hW0 : (w.alloc (.cells #[.string ⟨fr.toArray⟩, .slice x1 nx.length p1, .slice x2 ou.length p2, .slice x3 fi.length p3, .slice x4 ta.length p4] 50)).alloc (.cells #[.string ⟨fr'.toArray⟩, .slice y1 nx'.length q1, .slice y2 ou'.length q2, .slice y3 fi'.length q3, .slice y4 ta'.length q4] 50) = W0
  have hDb : W0.heap[w.heap.size]? = some (.cells #[.string ⟨fr.toArray⟩, .slice x1 nx.length p1, .slice x2 ou.length p2, .slice x3 fi.length p3, .slice x4 ta.length p4] 50 (0, 0)) := by rw [← hW0]; exact heap_alloc2_old _ _ _
  have hDc : W0.heap[w.heap.size + 1]? = some (.cells #[.string ⟨fr'.toArray⟩, .slice y1 nx'.length q1, .slice y2 ou'.length q2, .slice y3 fi'.length q3, .slice y4 ta'.length q4] 50 (0, 0)) := by rw [← hW0]; exact heap_alloc2_new _ _ _
  have hB0 : Below w.heap.size w W0 := by rw [← hW0]; exact ((Below.refl _ _).alloc (Nat.le_refl _) _).alloc (by simp) _
  have HW0 := hid hW0
  have H1 := hid (h.frame (F' := F) (w' := W0) (fun _ h => h) (fun g hg _ => hB0.block g (hF g hg)))
  have H2 := hid (h'.frame (F' := G) (w' := W0) (fun _ h => h) (fun g hg _ => hB0.block g (hG g hg)))
  obtain ⟨e0, e1, e2, e3, e4⟩ := scells hDb
  obtain ⟨e5, e6, e7, e8, e9⟩ := scells hDc
  clear h h' hW0
  go_enter Try.func33, Try.ntmps33
  by_cases hfr : fr = fr'
  · subst hfr
    by_cases hnl : nx.length = nx'.length
    · have hnb : ((nx.length : Int) != (nx'.length : Int)) = false := by simp [hnl]
      have HNL := hid hnl
      clear hnl
      by_cases hol : ou.length = ou'.length
      · have hob : ((ou.length : Int) != (ou'.length : Int)) = false := by simp [hol]
        have HOL := hid hol
        clear hol
        go_wp2_with fail
        rw [HW0.out]
        go_wp2_with fail
        refine (bools_same H1.out.fin H2.out.fin).mono ?_
        rintro e w2 ⟨rfl, n2, rfl⟩
        dsimp only
        by_cases hfi : fi = fi'
        · subst hfi
          rw [show decide (fi = fi) = true from decide_eq_true rfl]
          clear hnb hob
          go_wp2_with fail
          refine (texts_same (H1.out.tail.draw n2) (H2.out.tail.draw n2)).mono ?_
          rintro e w3 ⟨rfl, n3, rfl⟩
          dsimp only
          by_cases hta : ta = ta'
          · subst hta
            rw [show decide (ta = ta) = true from decide_eq_true rfl]
            have hB2 : Below w.heap.size w ((W0.drewN n2).drewN n3) := below_drewN (below_drewN hB0 _) _
            have hh2 : ((W0.drewN n2).drewN n3).heap = W0.heap := rfl
            obtain ⟨ad1, cp1, ee1, hm1, hr1⟩ := H1.out.next
            obtain ⟨ad2, cp2, ee2, hm2, hr2⟩ := H2.out.next
            obtain ⟨ad3, cp3, ee3, hm3, hr3⟩ := H1.out.outs
            obtain ⟨ad4, cp4, ee4, hm4, hr4⟩ := H2.out.outs
            cases ee1
            cases ee2
            cases ee3
            cases ee4
            have HR1 := hid hr1
            have HR2 := hid hr2
            have HR3 := hid hr3
            have HR4 := hid hr4
            unfold maxLen at hm1 hm2 hm3 hm4
            clear hr1 hr2 hr3 hr4 e0 e1 e2 e3 e4 e5 e6 e7 e8 e9
            have HDB := hid hDb
            have HDC := hid hDc
            clear hDb hDc
            go_wp2_with fail
            generalize hW2 : (W0.drewN n2).drewN n3 = W2 at *
            try rw [World.drewN_drewN] at hW2
            try rw [hW2]
            clear hW2
            go_loopw [5] (fun v wr => ∃ k : Nat, k ≤ nx.length ∧ v = .int .i64 k ∧ Below w.heap.size w wr ∧ wr.heap = W0.heap ∧ Hid (nx.take k = nx'.take k) ∧ Hid (ou.take k = ou'.take k)) (fun v _ => nx.length - (intOf v).toNat)
            case atStart => exact ⟨0, Nat.zero_le _, rfl, hB2, hh2, hid (by simp), hid (by simp)⟩
            case round =>
              obtain ⟨k, hk, rfl, hbr, hhr, htk, hto⟩ := hrel
              obtain ⟨e0, e1, e2, e3, e4⟩ := scells (show wr.heap[w.heap.size]? = _ by rw [hhr]; exact HDB.out)
              obtain ⟨e5, e6, e7, e8, e9⟩ := scells (show wr.heap[w.heap.size + 1]? = _ by rw [hhr]; exact HDC.out)
              by_cases hlt : k < nx.length
              · have hlt2 : k < nx'.length := by have := HNL.out; omega
                have hlt2' : (k : Int) < (nx'.length : Int) := by omega
                obtain ⟨g, off, rfl, hFg, v1, hv1, hrow1⟩ := HR1.out.at' hlt
                obtain ⟨g2, off2, rfl, hFg2, v2, hv2, hrow2⟩ := HR2.out.at' hlt2
                have hw1 := (cell_heap (w' := wr) (by rw [hhr])).trans hv1
                have hw2 := (cell_heap (w' := wr) (by rw [hhr])).trans hv2
                have HW1 := hid (fun n : Nat => IntsIn.frame (w' := wr.drewN n) hrow1 (fun _ h => h) (fun g _ _ => by show wr.heap[g]? = _; rw [hhr]))
                have HW2 := hid (fun n : Nat => IntsIn.frame (w' := wr.drewN n) hrow2 (fun _ h => h) (fun g _ _ => by show wr.heap[g]? = _; rw [hhr]))
                obtain ⟨_, _, rfl, _, _⟩ := hrow1
                obtain ⟨_, _, rfl, _, _⟩ := hrow2
                clear hv1 hv2
                by_cases he : nx[k] = nx'[k]
                · have HB := hid (show decide (nx[k] = nx'[k]) = true from decide_eq_true he)
                  have HN := hid (show nx.take (k + 1) = nx'.take (k + 1) by rw [take_succ' _ _ hlt, take_succ' _ _ hlt2, htk.out, he])
                  clear he
                  by_cases hlo : k < ou.length
                  · have hlo2 : k < ou'.length := by have := HOL.out; omega
                    have hlo' : (k : Int) < (ou.length : Int) := by omega
                    have hlo2' : (k : Int) < (ou'.length : Int) := by omega
                    obtain ⟨g3, off3, rfl, hFg3, v3, hv3, hrow3⟩ := HR3.out.at' hlo
                    obtain ⟨g4, off4, rfl, hFg4, v4, hv4, hrow4⟩ := HR4.out.at' hlo2
                    have hw3 := (cell_heap (w' := wr) (by rw [hhr])).trans hv3
                    have hw4 := (cell_heap (w' := wr) (by rw [hhr])).trans hv4
                    have HW3 := hid (fun n : Nat => StrsIn.frame (w' := wr.drewN n) hrow3 (fun _ h => h) (fun g _ _ => by show wr.heap[g]? = _; rw [hhr]))
                    have HW4 := hid (fun n : Nat => StrsIn.frame (w' := wr.drewN n) hrow4 (fun _ h => h) (fun g _ _ => by show wr.heap[g]? = _; rw [hhr]))
                    obtain ⟨_, _, rfl, _, _⟩ := hrow3
                    obtain ⟨_, _, rfl, _, _⟩ := hrow4
                    clear hv3 hv4
                    by_cases ht : ou[k] = ou'[k]
                    · have HC := hid (show decide (ou[k] = ou'[k]) = true from decide_eq_true ht)
                      have HM := hid (show ou.take (k + 1) = ou'.take (k + 1) by rw [take_succ' _ _ hlo, take_succ' _ _ hlo2, hto.out, ht])
                      clear ht
                      go_upto_region 6 with fail
                      go_quiet (first | (go_at_call 60; exact quiet_draw (HB.out ▸ ints_same (HW1.out _) (HW2.out _))) | (go_at_call 59; exact quiet_draw (HC.out ▸ texts_same (HW3.out _) (HW4.out _))))
                      go_wp2
                      go_roundw
                      case rel => exact ⟨k + 1, by omega, by go_num, below_drewN hbr _, hhr, HN, HM⟩
                      case measure => simp [intOf]; omega
                    · have HC := hid (show decide (ou[k] = ou'[k]) = false from decide_eq_false ht)
                      have HM := hid (show ¬ SqEq ⟨fr, nx, ou, fi, ta⟩ ⟨fr, nx', ou', fi, ta⟩ from fun e => ht (by
                        have h1 := congrArg (fun l => l[k]?) e.outs
                        simp only [List.getElem?_take, if_pos hlt, List.getElem?_eq_getElem hlo, List.getElem?_eq_getElem hlo2] at h1
                        exact Option.some.inj h1))
                      clear ht
                      go_upto_region 6 with fail
                      go_quiet (first | (go_at_call 60; exact quiet_draw (HB.out ▸ ints_same (HW1.out _) (HW2.out _))) | (go_at_call 59; exact quiet_draw (HC.out ▸ texts_same (HW3.out _) (HW4.out _))))
                      go_wp2
                      go_ret
                      exact tells_no HM.out (below_drewN hbr _)
                  · have hlo' : ¬ (k : Int) < (ou.length : Int) := by omega
                    have HM := hid (show ou.take (k + 1) = ou'.take (k + 1) by
                      have h := hto.out
                      rw [List.take_of_length_le (by omega), List.take_of_length_le (by have := HOL.out; omega)] at h
                      rw [List.take_of_length_le (by omega), List.take_of_length_le (by have := HOL.out; omega), h])
                    go_upto_region 6 with fail
                    go_quiet ((go_at_call 60; exact quiet_draw (HB.out ▸ ints_same (HW1.out _) (HW2.out _))))
                    go_wp2
                    go_roundw
                    case rel => exact ⟨k + 1, by omega, by go_num, below_drewN hbr _, hhr, HN, HM⟩
                    case measure => simp [intOf]; omega
                · have HB := hid (show decide (nx[k] = nx'[k]) = false from decide_eq_false he)
                  have HN := hid (show ¬ SqEq ⟨fr, nx, ou, fi, ta⟩ ⟨fr, nx', ou', fi, ta⟩ from fun e => he (by have h := e.next; simp only at h; subst h; rfl))
                  clear he
                  go_upto_region 6 with fail
                  go_quiet ((go_at_call 60; exact quiet_draw (HB.out ▸ ints_same (HW1.out _) (HW2.out _))))
                  go_wp2
                  go_ret
                  exact tells_no HN.out (below_drewN hbr _)
              · have HN := hid (show SqEq ⟨fr, nx, ou, fi, ta⟩ ⟨fr, nx', ou', fi, ta⟩ from ⟨rfl, by
                  have h := htk.out
                  rw [List.take_of_length_le (by omega), List.take_of_length_le (by have := HNL.out; omega)] at h
                  exact h, HOL.out, by
                  obtain rfl : k = nx.length := by omega
                  exact hto.out, rfl, rfl⟩)
                go_wp2
                go_ret
                exact tells_yes HN.out hbr
          · rw [show decide (ta = ta') = false from decide_eq_false hta]
            go_wp2
            go_ret
            exact tells_no (fun e => hta e.tail) (by first | exact below_drewN (below_drewN hB0 _) _ | exact below_drewN hB0 _)
        · rw [show decide (fi = fi') = false from decide_eq_false hfi]
          go_wp2
          go_ret
          exact tells_no (fun e => hfi e.fin) (below_drewN hB0 _)
      · have hob : ((ou.length : Int) != (ou'.length : Int)) = true := by simp; omega
        have HNO := hid hol
        clear hol
        go_wp2_with fail
        rw [HW0.out]
        go_wp2
        go_ret
        exact tells_no (fun e => HNO.out e.olen) hB0
    · have hnb : ((nx.length : Int) != (nx'.length : Int)) = true := by simp; omega
      have HNO := hid hnl
      clear hnl
      go_wp2_with fail
      rw [HW0.out]
      go_wp2
      go_ret
      exact tells_no (fun e => HNO.out (by have h := e.next; simp only at h; rw [h])) hB0
  · have hfb : (fr != fr') = true := by simp [hfr]
    go_wp2_with fail
    rw [HW0.out]
    go_wp2
    go_ret
    exact tells_no (fun e => hfr e.front) hB0
end Go.Proofs.Ytdokeelodcckoaa.Im
