/-
  Automatons of many ways in memory; the contracts of nfa.state, rise, Check.
-/
import Derived.Test.YtfjomnhdmkbkiaaDoorDfI
import Derived.Test.YtfjomnhdmkbkiaaDoorDfJ
namespace Go.Proofs.YtfjomnhdmkbkiaaDoor.Im
open Go.RowKit Go.Lib

structure NfaIn (F : Nat → Prop) (w : World) (s a b c : Value) (n : Nfa) : Prop where
  states : s = .int .i64 n.states
  starts : IntsIn F w a n.starts
  ends : IntsIn F w b n.ends
  edges : EdgesIn F w c n.edges
theorem NfaIn.frame {F F' : Nat → Prop} {w w' : World} {s a b c : Value} {n : Nfa} (h : NfaIn F w s a b c n) (hF : ∀ g, F g → F' g) (hw : ∀ g, F g → g < w.heap.size → w'.heap[g]? = w.heap[g]?) : NfaIn F' w' s a b c n :=
  ⟨h.states, h.starts.frame hF hw, h.ends.frame hF hw, EdgesIn.frame h.edges hF hw⟩
set_option maxHeartbeats 1000000 in
theorem state_any (s n : Int) (w : World) :
    Calls Tryd.prog 62 #[.int .i64 s, .int .i64 n] w fun e w' => e = .returned (.bool (stateOk n s)) ∧ w' = w := by
  by_cases h : 0 ≤ s
  · by_cases h' : s < n
    · have HS := hid (show stateOk n s = true by unfold stateOk; simp [h, h'])
      go_enter Tryd.func62, Tryd.ntmps62
      go_wp2
      go_ret
      exact ⟨by rw [HS.out]; rfl, rfl⟩
    · have HS := hid (show stateOk n s = false by unfold stateOk; simp [h, h'])
      go_enter Tryd.func62, Tryd.ntmps62
      go_wp2
      go_ret
      exact ⟨by rw [HS.out]; rfl, rfl⟩
  · have HS := hid (show stateOk n s = false by unfold stateOk; simp [h])
    go_enter Tryd.func62, Tryd.ntmps62
    go_wp2
    go_ret
    exact ⟨by rw [HS.out]; rfl, rfl⟩
theorem state_yes {s n : Int} (h : stateOk n s = true) (w : World) : Calls Tryd.prog 62 #[.int .i64 s, .int .i64 n] w fun e w' => e = .returned (.bool true) ∧ w' = w := by
  have := state_any s n w; rw [h] at this; exact this
theorem state_no {s n : Int} (h : stateOk n s = false) (w : World) : Calls Tryd.prog 62 #[.int .i64 s, .int .i64 n] w fun e w' => e = .returned (.bool false) ∧ w' = w := by
  have := state_any s n w; rw [h] at this; exact this
def prevR (l : List Int) (k : Nat) : Option Int := if k = 0 then none else l[k - 1]?
theorem rise_step {n : Int} {l : List Int} {k : Nat} (hk : k < l.length) : riseM n (prevR l k) (l.drop k) = (stateOk n l[k] && (decide (k = 0) || decide (l.getD (k - 1) 0 < l[k])) && riseM n (prevR l (k + 1)) (l.drop (k + 1))) := by
  rw [drop_cons' l k hk]
  have e2 : prevR l (k + 1) = some l[k] := by unfold prevR; rw [if_neg (by omega)]; simp [hk]
  rw [e2]
  by_cases h0 : k = 0
  · subst h0
    have e1 : prevR l 0 = none := rfl
    rw [e1]
    simp [riseM]
  · have e1 : prevR l k = some l[k - 1] := by unfold prevR; rw [if_neg h0, List.getElem?_eq_getElem]
    have e3 : l.getD (k - 1) 0 = l[k - 1] := by rw [List.getD_eq_getElem?_getD, List.getElem?_eq_getElem (by omega)]; rfl
    rw [e1, e3]
    simp [riseM, h0]
set_option maxRecDepth 100000 in
set_option maxHeartbeats 2000000 in
theorem rise_any {F : Nat → Prop} {w : World} {v : Value} {l : List Int} (hl : IntsIn F w v l) (n : Int) :
    Calls Tryd.prog 61 #[v, .int .i64 n] w fun e w' => e = .returned (.bool (riseM n none l)) ∧ w' = w := by
  have HL := hid hl
  obtain ⟨ad, cp, rfl, hm, _⟩ := hl
  unfold maxLen at hm
  go_enter Tryd.func61, Tryd.ntmps61
  go_wp2_with fail
  go_loop [9] (fun i => ∃ k : Nat, k ≤ l.length ∧ i = .int .i64 k ∧ Hid (riseM n none l = riseM n (prevR l k) (l.drop k))) (fun i => l.length - (intOf i).toNat)
  case atStart => exact ⟨0, Nat.zero_le _, rfl, hid rfl⟩
  case round =>
    obtain ⟨k, hk, rfl, hri⟩ := hrel
    by_cases hlt : k < l.length
    · obtain ⟨g, off, rfl, hFg, hx⟩ := ints_at HL.out hlt
      have hri1 := hri.out
      rw [rise_step hlt] at hri1
      obtain ⟨s, hs⟩ : ∃ s, s = l[k] := ⟨_, rfl⟩
      rw [← hs] at hx hri1
      clear hri
      rcases Bool.eq_false_or_eq_true (stateOk n s) with hst | hst
      · have hcall := state_yes hst w
        rw [hst, Bool.true_and] at hri1
        by_cases hk0 : k = 0
        · subst hk0
          rw [Nat.add_zero] at hx
          have HR := hid (show riseM n none l = riseM n (prevR l (0 + 1)) (l.drop (0 + 1)) by rw [hri1]; simp)
          clear hri1 hst hs
          go_wp2_with (go_at_call 62; refine hcall.mono ?_; rintro e w1 ⟨rfl, rfl⟩)
          go_round
          case rel => exact ⟨1, by omega, by go_num, HR⟩
          case measure => simp [intOf]; omega
        · have hlt1 : k - 1 < l.length := by omega
          obtain ⟨g', off', e', _, hy⟩ := ints_at HL.out hlt1
          cases e'
          have e3 : l.getD (k - 1) 0 = l[k - 1] := by rw [List.getD_eq_getElem?_getD, List.getElem?_eq_getElem hlt1]; rfl
          rw [e3] at hri1
          obtain ⟨q, hq⟩ : ∃ q, q = l[k - 1] := ⟨_, rfl⟩
          rw [← hq] at hy hri1
          have hk1 : (0 : Int) < (k : Int) := by omega
          by_cases hqs : q < s
          · have HR := hid (show riseM n none l = riseM n (prevR l (k + 1)) (l.drop (k + 1)) by rw [hri1]; simp [hqs])
            clear hri1 hst hs hq e3
            go_wp2_with (go_at_call 62; refine hcall.mono ?_; rintro e w1 ⟨rfl, rfl⟩)
            go_round
            case rel => exact ⟨k + 1, by omega, by go_num, HR⟩
            case measure => simp [intOf]; omega
          · have HR := hid (show riseM n none l = false by rw [hri1]; simp [hqs, hk0])
            clear hri1 hst hs hq e3
            go_wp2_with (go_at_call 62; refine hcall.mono ?_; rintro e w1 ⟨rfl, rfl⟩)
            go_ret
            exact ⟨by rw [HR.out]; rfl, rfl⟩
      · have hcall := state_no hst w
        have HR := hid (show riseM n none l = false by rw [hri1, hst]; simp)
        clear hri1 hst hs
        go_wp2_with (go_at_call 62; refine hcall.mono ?_; rintro e w1 ⟨rfl, rfl⟩)
        go_ret
        exact ⟨by rw [HR.out]; rfl, rfl⟩
    · obtain rfl : k = l.length := by omega
      have HR := hid (show riseM n none l = true by
        rw [hri.out, List.drop_length]; cases prevR l l.length <;> rfl)
      clear hri
      go_wp2
      go_ret
      exact ⟨by rw [HR.out]; rfl, rfl⟩
theorem eqSet (a b c d a' b' c' d' : Int) (w : World) : (Op.equalIn 10000 65 (.agg #[.int .u64 a, .int .u64 b, .int .u64 c, .int .u64 d]) (.agg #[.int .u64 a', .int .u64 b', .int .u64 c', .int .u64 d'])).run Tryd.prog w = .ok (a == a' && b == b' && c == c' && d == d') w := by
  have u3 := Tryd.underlying63
  have a3 := Tryd.isAgg63
  have z3 := Tryd.sizeOf63
  rw [show (10000 : Nat) = 9999 + 1 from rfl, Op.equalIn]
  simp only [Sem.run_bind, run_underlying Tryd.underlying65, Result.andThen_ok]
  simp only [Std.Legacy.Range.forIn_eq_forIn_range', Std.Legacy.Range.size, Nat.sub_zero, Nat.add_sub_cancel, Nat.div_one, List.range'_succ, List.range'_zero, List.forIn_cons, List.forIn_nil]
  go_simp
  by_cases h1 : a = a' <;> by_cases h2 : b = b' <;> by_cases h3 : c = c' <;> by_cases h4 : d = d' <;> simp [h1, h2, h3, h4]
theorem eqNone (s : Se) (w : World) : (Op.equalIn 10000 65 s.v (.agg #[.int .u64 0, .int .u64 0, .int .u64 0, .int .u64 0])).run Tryd.prog w = .ok (decide (s = Se.none)) w := by
  obtain ⟨a, b, c, d⟩ := s
  rw [eqSet]
  congr 1
  simp only [Se.none, Se.mk.injEq]
  by_cases h1 : a = 0 <;> by_cases h2 : b = 0 <;> by_cases h3 : c = 0 <;> by_cases h4 : d = 0 <;> simp [h1, h2, h3, h4]
theorem ncells {w : World} {D : Nat} {s a b c : Value} (h : w.heap[D]? = some (.cells #[s, a, b, c] 25 (0, 0))) :
    w.cell? ⟨D, 0, none⟩ = some s ∧ w.cell? ⟨D, 1, none⟩ = some a ∧ w.cell? ⟨D, 2, none⟩ = some b ∧ w.cell? ⟨D, 3, none⟩ = some c := ⟨cell_blk h rfl, cell_blk h rfl, cell_blk h rfl, cell_blk h rfl⟩
theorem rise_yes {F : Nat → Prop} {w : World} {v : Value} {l : List Int} (hl : IntsIn F w v l) {n : Int} (h : riseM n none l = true) : Calls Tryd.prog 61 #[v, .int .i64 n] w fun e w' => e = .returned (.bool true) ∧ w' = w := by
  have := rise_any hl n; rw [h] at this; exact this
theorem rise_no {F : Nat → Prop} {w : World} {v : Value} {l : List Int} (hl : IntsIn F w v l) {n : Int} (h : riseM n none l = false) : Calls Tryd.prog 61 #[v, .int .i64 n] w fun e w' => e = .returned (.bool false) ∧ w' = w := by
  have := rise_any hl n; rw [h] at this; exact this
set_option maxRecDepth 100000 in
set_option maxHeartbeats 4000000 in
theorem ncheck_any {F : Nat → Prop} {w : World} {s a b c : Value} {n : Nfa} (hn : NfaIn F w s a b c n) (hF : ∀ g, F g → g < w.heap.size) :
    Calls Tryd.prog 27 #[.agg #[s, a, b, c]] w fun e w' => e = .returned (.int .i64 (errOf (nfaOk n))) ∧ Below w.heap.size w w' := by
  obtain ⟨rfl, h1, h2, h3⟩ := hn
  have old : ∀ o : Obj, ∀ g, F g → g < w.heap.size → (w.alloc o).heap[g]? = w.heap[g]? := fun o g _ hg => alloc_old hg
  have g1 := h1.frame (F' := F) (fun _ h => h) (old (.cells #[.int .i64 n.states, a, b, c] 25))
  have g2 := h2.frame (F' := F) (fun _ h => h) (old (.cells #[.int .i64 n.states, a, b, c] 25))
  have H3 := hid h3
  have HALL := hid (show nfaOk n = (decide (0 ≤ n.states) && decide (n.states ≤ 4096) && decide (n.edges.length ≤ 65536) && riseM n.states none n.starts && riseM n.states none n.ends && n.edges.all (edgeOk n.states)) from rfl)
  have hB0 := (Below.refl w.heap.size w).alloc (Nat.le_refl _) (.cells #[.int .i64 n.states, a, b, c] 25)
  obtain ⟨adc, cpc, rfl, hm3, _⟩ := h3
  unfold maxLen at hm3
  clear h1 h2 old
  by_cases n0 : n.states < 0
  · have hno := hid (errOf_false (show nfaOk n = false by rw [HALL.out, decide_eq_false (by omega)]; rfl))
    clear g1 g2
    go_enter Tryd.func27, Tryd.ntmps27
    go_wp2
    go_ret
    exact ⟨err_eq hno.out.symm, hB0⟩
  by_cases n1 : 4096 < n.states
  · have hno := hid (errOf_false (show nfaOk n = false by rw [HALL.out, decide_eq_false (show ¬ n.states ≤ 4096 by omega), Bool.and_false]; rfl))
    have n0' : decide (n.states < 0) = false := by simpa using n0
    clear g1 g2
    go_enter Tryd.func27, Tryd.ntmps27
    go_wp2
    go_ret
    exact ⟨err_eq hno.out.symm, hB0⟩
  by_cases n2 : 65536 < n.edges.length
  · have hno := hid (errOf_false (show nfaOk n = false by rw [HALL.out, decide_eq_false (show ¬ n.edges.length ≤ 65536 by omega), Bool.and_false]; rfl))
    have n2' : (65536 : Int) < n.edges.length := by omega
    clear g1 g2 n2
    go_enter Tryd.func27, Tryd.ntmps27
    go_wp2
    go_ret
    exact ⟨err_eq hno.out.symm, hB0⟩
  have n2' : ¬ (65536 : Int) < n.edges.length := by omega
  have HOK := hid (show nfaOk n = (riseM n.states none n.starts && riseM n.states none n.ends && n.edges.all (edgeOk n.states)) by
    rw [HALL.out, decide_eq_true (show 0 ≤ n.states by omega), decide_eq_true (show n.states ≤ 4096 by omega), decide_eq_true (show n.edges.length ≤ 65536 by omega)]; rfl)
  clear HALL n2
  rcases Bool.eq_false_or_eq_true (riseM n.states none n.starts) with r1 | r1
  · have hc1 := rise_yes g1 r1
    rcases Bool.eq_false_or_eq_true (riseM n.states none n.ends) with r2 | r2
    · have hc2 := rise_yes g2 r2
      rw [r1, r2, Bool.true_and, Bool.true_and] at HOK
      clear r1 r2 g1 g2
      go_enter Tryd.func27, Tryd.ntmps27
      go_wp2_with (first | (go_at_call 61; refine hc1.mono ?_; clear hc1; rintro e w1 ⟨rfl, rfl⟩) | (go_at_call 61; refine hc2.mono ?_; rintro e w1 ⟨rfl, rfl⟩))
      go_loopw [36] (fun i wr => ∃ k : Nat, k ≤ n.edges.length ∧ i = .int .i64 k ∧ Hid ((n.edges.take k).all (edgeOk n.states) = true) ∧ wr.heap[w.heap.size]? = some (.cells #[.int .i64 n.states, a, b, .slice adc n.edges.length cpc] 25 (0, 0)) ∧ Below w.heap.size w wr ∧ w.heap.size + 1 ≤ wr.heap.size) (fun i _ => n.edges.length - (intOf i).toNat)
      case atStart => exact ⟨0, Nat.zero_le _, rfl, hid (by simp), heap_alloc_new _ _, hB0, by simp⟩
      case round =>
        obtain ⟨k, hk, rfl, hall, hblk, hbel, hws⟩ := hrel
        have q0 : ∀ o : Obj, (wr.alloc o).cell? ⟨w.heap.size, 0, none⟩ = some (.int .i64 n.states) := fun o => (cell_heap (alloc_old (by omega))).trans (ncells hblk).1
        have HBK := hid hblk
        have HBL := hid hbel
        clear hblk hc2 hB0
        by_cases hlt : k < n.edges.length
        · obtain ⟨g, off, rfl, hFg, c0, c1, c2, c3, c4, c5⟩ := (EdgesIn.frame H3.out (w' := wr) (F' := F) (fun _ h => h) (fun q hq _ => hbel.block q (hF q hq))).at' hlt
          have hmem := List.getElem_mem hlt
          have hsn := fun h => hid (all_snoc (p := edgeOk n.states) hlt hall.out h)
          have hno' := fun h => hid (errOf_false (show nfaOk n = false by rw [HOK.out]; exact all_not (p := edgeOk n.states) hmem h))
          obtain ⟨e, he⟩ : ∃ e, e = n.edges[k] := ⟨_, rfl⟩
          rw [← he] at c0 c1 c2 c3 c4 c5 hsn hno'
          have he' : edgeOk n.states e = (stateOk n.states e.fr && stateOk n.states e.dst && !decide (e.st = Se.none)) := rfl
          have hB1 : Below w.heap.size w (wr.alloc (.cells e.cs 67)) := hbel.alloc hbel.size _
          clear hbel he hmem hall
          rcases Bool.eq_false_or_eq_true (stateOk n.states e.fr) with s1 | s1
          · have k1 := state_yes s1
            rcases Bool.eq_false_or_eq_true (stateOk n.states e.dst) with s2 | s2
            · have k2 := state_yes s2
              have hz := eqNone e.st
              by_cases s3 : e.st = Se.none
              · have hno := hno' (by rw [he', s1, s2, decide_eq_true s3]; rfl)
                rw [decide_eq_true s3] at hz
                clear s1 s2 s3 he' hsn hno'
                go_wp2_with (first | (go_at_call 62; refine (k1 _).mono ?_; clear k1; rintro e' w1 ⟨rfl, rfl⟩) | (go_at_call 62; refine (k2 _).mono ?_; rintro e' w1 ⟨rfl, rfl⟩))
                go_ret
                exact ⟨err_eq hno.out.symm, hB1⟩
              · have hs := hsn (by rw [he', s1, s2, decide_eq_false s3]; rfl)
                rw [decide_eq_false s3] at hz
                clear s1 s2 s3 he' hsn hno'
                go_wp2_with (first | (go_at_call 62; refine (k1 _).mono ?_; clear k1; rintro e' w1 ⟨rfl, rfl⟩) | (go_at_call 62; refine (k2 _).mono ?_; rintro e' w1 ⟨rfl, rfl⟩))
                go_roundw
                case rel => exact ⟨k + 1, by omega, by go_num, hs, (alloc_old (by omega)).trans HBK.out, hB1, by simp; omega⟩
                case measure => simp [intOf]; omega
            · have k2 := state_no s2
              have hno := hno' (by rw [he', s1, s2]; rfl)
              clear s1 s2 he' hsn hno'
              go_wp2_with (first | (go_at_call 62; refine (k1 _).mono ?_; clear k1; rintro e' w1 ⟨rfl, rfl⟩) | (go_at_call 62; refine (k2 _).mono ?_; rintro e' w1 ⟨rfl, rfl⟩))
              go_ret
              exact ⟨err_eq hno.out.symm, hB1⟩
          · have k1 := state_no s1
            have hno := hno' (by rw [he', s1]; rfl)
            clear s1 he' hsn hno'
            go_wp2_with (go_at_call 62; refine (k1 _).mono ?_; clear k1; rintro e' w1 ⟨rfl, rfl⟩)
            go_ret
            exact ⟨err_eq hno.out.symm, hB1⟩
        · obtain rfl : k = n.edges.length := by omega
          have hyes := hid (errOf_true (show nfaOk n = true by rw [HOK.out]; have := hall.out; rw [List.take_length] at this; exact this))
          clear hall
          go_wp2
          go_ret
          exact ⟨err_eq hyes.out.symm, HBL.out⟩
    · have hc2 := rise_no g2 r2
      have hno := hid (errOf_false (show nfaOk n = false by rw [HOK.out, r1, r2]; rfl))
      clear r1 r2 g1 g2
      go_enter Tryd.func27, Tryd.ntmps27
      go_wp2_with (first | (go_at_call 61; refine hc1.mono ?_; clear hc1; rintro e w1 ⟨rfl, rfl⟩) | (go_at_call 61; refine hc2.mono ?_; rintro e w1 ⟨rfl, rfl⟩))
      go_ret
      exact ⟨err_eq hno.out.symm, hB0⟩
  · have hc1 := rise_no g1 r1
    have hno := hid (errOf_false (show nfaOk n = false by rw [HOK.out, r1]; rfl))
    clear r1 g1 g2
    go_enter Tryd.func27, Tryd.ntmps27
    go_wp2_with (go_at_call 61; refine hc1.mono ?_; clear hc1; rintro e w1 ⟨rfl, rfl⟩)
    go_ret
    exact ⟨err_eq hno.out.symm, hB0⟩
end Go.Proofs.YtfjomnhdmkbkiaaDoor.Im
