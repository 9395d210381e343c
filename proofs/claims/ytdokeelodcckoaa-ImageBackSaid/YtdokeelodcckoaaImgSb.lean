/-
  Whether two automatons are the same.
-/
import Derived.Test.YtdokeelodcckoaaImgSa
namespace Go.Proofs.Ytdokeelodcckoaa.Im
open Go.RowKit Go.Lib

/-- the answer, yes just if P -/
def Tells (P : Prop) (w : World) (e : Ending) (w' : World) : Prop := (∃ b : Bool, e = .returned (.bool b) ∧ (b = true ↔ P)) ∧ Below w.heap.size w w'
theorem quiet_draw {P : Program} {f : FuncId} {args : Array Value} {w : World} {n : Nat} {v : Value}
    (h : Calls P f args (w.drewN n) fun e w' => e = .returned v ∧ ∃ q, w' = (w.drewN n).drewN q) : Calls P f args (w.drewN n) fun e w'' => e = .returned v ∧ ∃ m, w'' = w.drewN m :=
  h.mono fun _ _ ⟨he, q, hq⟩ => ⟨he, n + q, by rw [hq, World.drewN_drewN]⟩
theorem IntsIn.draw {F : Nat → Prop} {w : World} {v : Value} {l : List Int} (h : IntsIn F w v l) (n : Nat) : IntsIn F (w.drewN n) v l := h.frame (fun _ h => h) (fun _ _ _ => rfl)
theorem BoolsIn.draw {F : Nat → Prop} {w : World} {v : Value} {l : List Bool} (h : BoolsIn F w v l) (n : Nat) : BoolsIn F (w.drewN n) v l := h.frame (fun _ h => h) (fun _ _ _ => rfl)
theorem StrsIn.draw {F : Nat → Prop} {w : World} {v : Value} {l : List (List B)} (h : StrsIn F w v l) (n : Nat) : StrsIn F (w.drewN n) v l := h.frame (fun _ h => h) (fun _ _ _ => rfl)
theorem tells_no {P : Prop} {w w' : World} (h : ¬ P) (hb : Below w.heap.size w w') : Tells P w (.returned (.bool false)) w' := ⟨⟨false, rfl, by simp [h]⟩, hb⟩
theorem tells_yes {P : Prop} {w w' : World} (h : P) (hb : Below w.heap.size w w') : Tells P w (.returned (.bool true)) w' := ⟨⟨true, rfl, by simp [h]⟩, hb⟩

set_option maxRecDepth 100000 in
set_option maxHeartbeats 2000000 in
theorem dfa_same {F G : Nat → Prop} {w : World} {a b c a' b' c' : Value} {d d' : Dfa} (h : DfaIn F w a b c d) (h' : DfaIn G w a' b' c' d') (hF : ∀ g, F g → g < w.heap.size) (hG : ∀ g, G g → g < w.heap.size) :
    Calls Try.prog 34 #[.agg #[a, b, c], .agg #[a', b', c']] w (Tells (d = d') w) := by
  obtain ⟨cl, nx, fi⟩ := d
  obtain ⟨cl', nx', fi'⟩ := d'
  obtain ⟨x1, p1, x2, p2, x3, p3, rfl, rfl, rfl⟩ := h.shape
  obtain ⟨y1, q1, y2, q2, y3, q3, rfl, rfl, rfl⟩ := h'.shape
  dsimp only
  generalize hW0 : (w.alloc (.cells #[.slice x1 cl.length p1, .slice x2 nx.length p2, .slice x3 fi.length p3] 46)).alloc (.cells #[.slice y1 cl'.length q1, .slice y2 nx'.length q2, .slice y3 fi'.length q3] 46) = W0
  have hDb : W0.heap[w.heap.size]? = some (.cells #[.slice x1 cl.length p1, .slice x2 nx.length p2, .slice x3 fi.length p3] 46 (0, 0)) := by rw [← hW0]; exact heap_alloc2_old _ _ _
  have hDc : W0.heap[w.heap.size + 1]? = some (.cells #[.slice y1 cl'.length q1, .slice y2 nx'.length q2, .slice y3 fi'.length q3] 46 (0, 0)) := by rw [← hW0]; exact heap_alloc2_new _ _ _
  have hB0 : Below w.heap.size w W0 := by rw [← hW0]; exact ((Below.refl _ _).alloc (Nat.le_refl _) _).alloc (by simp) _
  have HW0 := hid hW0
  have H1 := hid (h.frame (F' := F) (w' := W0) (fun _ h => h) (fun g hg _ => hB0.block g (hF g hg)))
  have H2 := hid (h'.frame (F' := G) (w' := W0) (fun _ h => h) (fun g hg _ => hB0.block g (hG g hg)))
  obtain ⟨e0, e1, e2⟩ := dcells hDb
  obtain ⟨e3, e4, e5⟩ := dcells hDc
  clear h h' hW0
  go_enter Try.func34, Try.ntmps34
  go_wp2_with fail
  rw [HW0.out]
  refine (ints_same H1.out.cls H2.out.cls).mono ?_
  rintro e w1 ⟨rfl, n1, rfl⟩
  dsimp only
  by_cases hcl : cl = cl'
  · subst hcl
    rw [show decide (cl = cl) = true from decide_eq_true rfl]
    by_cases hnl : nx.length = nx'.length
    · have hnb : ((nx.length : Int) != (nx'.length : Int)) = false := by simp [hnl]
      have HNL := hid hnl
      clear hnl
      go_wp2_with fail
      refine (bools_same (H1.out.fin.draw n1) (H2.out.fin.draw n1)).mono ?_
      rintro e w2 ⟨rfl, n2, rfl⟩
      dsimp only
      by_cases hfi : fi = fi'
      · subst hfi
        rw [show decide (fi = fi) = true from decide_eq_true rfl]
        clear hnb
        have hB2 : Below w.heap.size w ((W0.drewN n1).drewN n2) := below_drewN (below_drewN hB0 _) _
        have hh2 : ((W0.drewN n1).drewN n2).heap = W0.heap := rfl
        have HN1 := hid H1.out.next
        have HN2 := hid H2.out.next
        obtain ⟨ad1, cp1, ee1, hm1, hr1⟩ := H1.out.next
        obtain ⟨ad2, cp2, ee2, hm2, hr2⟩ := H2.out.next
        cases ee1
        cases ee2
        have HR1 := hid hr1
        have HR2 := hid hr2
        unfold maxLen at hm1 hm2
        clear hr1 hr2 e0 e1 e2 e3 e4 e5
        have HDB := hid hDb
        have HDC := hid hDc
        clear hDb hDc
        go_wp2_with fail
        generalize hW2 : (W0.drewN n1).drewN n2 = W2 at *
        try rw [World.drewN_drewN] at hW2
        try rw [hW2]
        clear hW2
        go_loopw [5] (fun v wr => ∃ k : Nat, k ≤ nx.length ∧ v = .int .i64 k ∧ Below w.heap.size w wr ∧ wr.heap = W0.heap ∧ Hid (nx.take k = nx'.take k)) (fun v _ => nx.length - (intOf v).toNat)
        case atStart => exact ⟨0, Nat.zero_le _, rfl, hB2, hh2, hid (by simp)⟩
        case round =>
          obtain ⟨k, hk, rfl, hbr, hhr, htk⟩ := hrel
          obtain ⟨e0, e1, e2⟩ := dcells (show wr.heap[w.heap.size]? = _ by rw [hhr]; exact HDB.out)
          obtain ⟨e3, e4, e5⟩ := dcells (show wr.heap[w.heap.size + 1]? = _ by rw [hhr]; exact HDC.out)
          by_cases hlt : k < nx.length
          · have hlt2 : k < nx'.length := by have := HNL.out; omega
            have hlt2' : (k : Int) < (nx'.length : Int) := by omega
            obtain ⟨g, off, rfl, hFg, v1, hv1, hrow1⟩ := HR1.out.at' hlt
            obtain ⟨g2, off2, rfl, hFg2, v2, hv2, hrow2⟩ := HR2.out.at' hlt2
            have hw1 := (cell_heap (w' := wr) (by rw [hhr])).trans hv1
            have hw2 := (cell_heap (w' := wr) (by rw [hhr])).trans hv2
            have HW1 := hid (fun n : Nat => IntsIn.frame (w' := wr.drewN n) hrow1 (fun _ h => h) (fun g _ _ => by show wr.heap[g]? = _; rw [hhr]))
            have HW2 := hid (fun n : Nat => IntsIn.frame (w' := wr.drewN n) hrow2 (fun _ h => h) (fun g _ _ => by show wr.heap[g]? = _; rw [hhr]))
            obtain ⟨_, _, rfl, _, _⟩ := hrow1
            obtain ⟨_, _, rfl, _, _⟩ := hrow2
            clear hv1 hv2
            by_cases he : nx[k] = nx'[k]
            · have HB := hid (show decide (nx[k] = nx'[k]) = true from decide_eq_true he)
              have HN := hid (show nx.take (k + 1) = nx'.take (k + 1) by rw [take_succ' _ _ hlt, take_succ' _ _ hlt2, htk.out, he])
              clear he
              go_upto_region 6 with fail
              go_quiet ((go_at_call 60; exact quiet_draw (HB.out ▸ ints_same (HW1.out _) (HW2.out _))))
              go_wp2
              go_roundw
              case rel => exact ⟨k + 1, by omega, by go_num, below_drewN hbr _, hhr, HN⟩
              case measure => simp [intOf]; omega
            · have HB := hid (show decide (nx[k] = nx'[k]) = false from decide_eq_false he)
              have HN := hid (show ¬ ((⟨cl, nx, fi⟩ : Dfa) = ⟨cl, nx', fi⟩) from fun e => he (by cases e; rfl))
              clear he
              go_upto_region 6 with fail
              go_quiet ((go_at_call 60; exact quiet_draw (HB.out ▸ ints_same (HW1.out _) (HW2.out _))))
              go_wp2
              go_ret
              exact tells_no (fun e => HN.out (by first | exact e | (rw [e]))) (below_drewN hbr _)
          · have HN := hid (show (⟨cl, nx, fi⟩ : Dfa) = ⟨cl, nx', fi⟩ by
              have h := htk.out
              rw [List.take_of_length_le (by omega), List.take_of_length_le (by have := HNL.out; omega)] at h
              rw [h])
            go_wp2
            go_ret
            exact tells_yes (by first | exact HN.out | (have h := HN.out; simpa using h)) hbr
      · rw [show decide (fi = fi') = false from decide_eq_false hfi]
        go_wp2
        go_ret
        exact tells_no (fun e => hfi (by cases e; rfl)) (by first | exact below_drewN (below_drewN hB0 _) _ | exact below_drewN hB0 _)
    · have hnb : ((nx.length : Int) != (nx'.length : Int)) = true := by simp; omega
      have HNO := hid hnl
      clear hnl
      go_wp2
      go_ret
      exact tells_no (fun e => HNO.out (by cases e; rfl)) (below_drewN hB0 _)
  · rw [show decide (cl = cl') = false from decide_eq_false hcl]
    go_wp2
    go_ret
    exact tells_no (fun e => hcl (by cases e; rfl)) (below_drewN hB0 _)
end Go.Proofs.Ytdokeelodcckoaa.Im
