/-
  The contract of nfa.Takes: any automaton whose sets are sets of words, any short text.
-/
import Derived.Test.YtfjomnhdmkbkiaaDoorDgE
import Derived.Test.YtfjomnhdmkbkiaaDoorDgB
import Derived.Test.YtfjomnhdmkbkiaaDoorDfN
import Derived.Test.YtfjomnhdmkbkiaaDoorDfM
import Derived.Test.YtfjomnhdmkbkiaaDoorDfT
import Derived.Test.YtfjomnhdmkbkiaaDoorDfW
import Derived.WalkMore
namespace Go.Proofs.YtfjomnhdmkbkiaaDoor.Im
open Go.RowKit Go.Lib Go.Maps Go.Shelf

theorem takesN_bad {n : Nfa} {t : List B} (h : ¬ nfaOk n = true) : takesN n t = (false, 1) := by unfold takesN; rw [if_neg h]
theorem takesN_good {n : Nfa} {t : List B} (h : nfaOk n = true) : takesN n t = (n.ends.any fun s => decide (s ∈ reachN n.edges n.starts t), 0) := by unfold takesN; rw [if_pos h]
theorem zeroUnit (w : World) : (zeroValue 91).run Tryd.prog w = .ok (.agg #[]) w := by kernel_rfl
abbrev IntSet (w : World) (b n : Nat) (ks : List Int) : Prop := SetAt Tryd.prog 3 w b n ks
theorem reachN_in {N : Int} (es : List Edge) (he : ∀ e ∈ es, edgeOk N e = true) : ∀ (w : List B) (S : List Int), (∀ x ∈ S, 0 ≤ x ∧ x < N) → ∀ x ∈ reachN es S w, 0 ≤ x ∧ x < N
  | [], _, h => h
  | c :: w, S, h => reachN_in es he w _ fun x hx => by
    obtain ⟨e, h1, _, _, rfl⟩ := (mem_stepN es S c x).1 hx
    have := he e h1
    unfold edgeOk stateOk at this
    simp only [Bool.and_eq_true, decide_eq_true_eq] at this
    exact this.1.2
theorem reach_none {sz : Nat} {ks : List Int} {N : Int} (h : sz = 0 → ∀ x l, keyOf Tryd.prog 3 (.int .i64 x) = some l → x ∉ ks) (hs : sz = 0) (hk : ∀ x ∈ ks, 0 ≤ x ∧ x < N) (hN : N < 4097) : ks = [] := by
  cases ks with
  | nil => rfl
  | cons x l =>
    have := hk x (by simp)
    exact absurd (List.mem_cons_self) (h hs x _ (keyOf_int_mk Tryd.underlying3 (wf_few this.1 (by omega))))
set_option maxRecDepth 100000 in
set_option maxHeartbeats 8000000 in
theorem ntakes_any {F : Nat → Prop} {w : World} {s a b c : Value} {n : Nfa} (hn : NfaIn F w s a b c n) (hF : ∀ g, F g → g < w.heap.size) (t : ByteArray) (ht : t.size ≤ 1000) :
    Calls Tryd.prog 28 #[.agg #[s, a, b, c], .string t] w fun e w' => e = .returned (.tuple #[.bool (takesN n t.data.toList).1, .int .i64 (takesN n t.data.toList).2]) ∧ Below w.heap.size w w' := by
  generalize hW0 : w.alloc (.cells #[s, a, b, c] 25) = W0
  have hDb : W0.heap[w.heap.size]? = some (.cells #[s, a, b, c] 25 (0, 0)) := by rw [← hW0]; exact heap_alloc_new _ _
  have hz0 : W0.heap.size = w.heap.size + 1 := by rw [← hW0]; simp
  have hB0 : Below w.heap.size w W0 := by rw [← hW0]; exact (Below.refl _ _).alloc (Nat.le_refl _) _
  have HB := hid (fun (W : World) (h : Below (w.heap.size + 1) W0 W) => hB0.trans (h.mono (by omega)))
  have HN := hid (fun (W : World) (h : Below (w.heap.size + 1) W0 W) => (show NfaIn F W s a b c n from hn.frame (fun _ h => h) (fun g hg _ => (HB.out W h).block g (hF g hg))))
  have HF := hid (fun (W : World) (h : Below (w.heap.size + 1) W0 W) (g : Nat) (hg : F g) => (show g < W.heap.size from Nat.lt_of_lt_of_le (hF g hg) (HB.out W h).size))
  have HBOX := hid (fun (W : World) (h : Below (w.heap.size + 1) W0 W) => ncells ((h.block w.heap.size (by omega)).trans hDb))
  have hsv := hn.states
  subst hsv
  obtain ⟨ada, cpa, rfl, hma, _⟩ := hn.starts
  obtain ⟨adb, cpb, rfl, hmb, _⟩ := hn.ends
  obtain ⟨adc, cpc, rfl, hmc, _⟩ := hn.edges
  have HMA := hid hma
  unfold maxLen at hma hmb hmc
  have HW0 := hid hW0
  have HZ := hid hz0
  clear hn hF hDb hW0 hB0 hz0
  obtain ⟨q0, q1, q2, q3⟩ := HBOX.out W0 (Below.refl _ _)
  have hmm := @run_makeMap Tryd.prog
  go_enter Tryd.func28, Tryd.ntmps28
  go_wp2_with fail
  rw [HW0.out]
  refine (ncheck_any (HN.out W0 (Below.refl _ _)) (HF.out W0 (Below.refl _ _))).mono ?_
  rintro e w1 ⟨rfl, hb1⟩
  rw [HZ.out] at hb1
  have H1 := hid hb1
  clear q0 q1 q2 q3 hb1
  by_cases hok : nfaOk n = true
  · have HYES := hid (takesN_good (t := t.data.toList) hok)
    have HL := hid (nfaOk_len hok)
    rw [hok, errOf_yes]
    clear hok
    have HA1 := hid (show Below (w.heap.size + 1) W0 (w1.alloc (.map #[] 0)) from H1.out.alloc (by have := H1.out.size; have := HZ.out; omega) _)
    obtain ⟨q0, q1, q2, q3⟩ := HBOX.out _ HA1.out
    have HRS := hid (rise_lt _ _ HL.out.2.2.2.1)
    have HRE := hid (rise_lt _ _ HL.out.2.2.2.2.1)
    have HEE := hid HL.out.2.2.2.2.2
    have hst := HL.out.2.1
    have HSL := hid (show t.size = t.data.toList.length from rfl)
    go_wp2_with fail
    go_loopw [26] (fun i wr => ∃ k : Nat, k ≤ n.starts.length ∧ i = .int .i64 k ∧ IntSet wr w1.heap.size k (n.starts.take k) ∧ Below (w.heap.size + 1) W0 wr) (fun i _ => n.starts.length - (intOf i).toNat)
    case atStart => exact ⟨0, Nat.zero_le _, rfl, SetAt.made _ _ _, HA1.out⟩
    case round =>
      obtain ⟨k, hk, rfl, hset, hbel⟩ := hrel
      have HS := hid hset
      have HBL := hid hbel
      clear hset hbel
      by_cases hlt : k < n.starts.length
      · obtain ⟨g, off, rfl, hFg, hx⟩ := ints_at (HN.out wr HBL.out).starts hlt
        have hz := HRS.out _ (List.getElem_mem hlt)
        have HWF := hid (wf_few hz.1 (by omega))
        have HTK := hid (show n.starts.take (k + 1) = n.starts.take k ++ [n.starts[k]] from take_succ' _ _ hlt)
        generalize n.starts[k] = z at *
        clear hz
        go_wp2_with (at_mapUpdate; refine wpList_set_put _ rfl _ _ _ 90 rfl 3 91 Tryd.underlying3 Tryd.underlying90 w1.heap.size k _ rfl HS.out (Nat.lt_of_lt_of_le hlt HMA.out) z rfl rfl HWF.out ?_; intro w2 hs2 ht2; have HS2 := hid hs2; have HT2 := hid ht2; clear hs2 ht2)
        go_roundw
        case rel => exact ⟨k + 1, by omega, by go_num, by rw [HTK.out]; exact HS2.out, below_turned HBL.out HT2.out (by have := H1.out.size; have := HZ.out; omega) (by have := HBL.out.size; have := HZ.out; omega)⟩
        case measure => simp [intOf]; omega
      · obtain rfl : k = n.starts.length := by omega
        rw [List.take_length] at HS
        obtain ⟨q0, q1, q2, q3⟩ := HBOX.out wr HBL.out
        have HMR := hid (show (w.heap.size + 1) ≤ w1.heap.size by have := H1.out.size; have := HZ.out; omega)
        go_wp2_with fail
        go_loopw [6, 9] (fun v6 v9 wo => ∃ k R m : Nat, k ≤ t.size ∧ v9 = .int .i64 k ∧ v6 = .map (some R) ∧ w.heap.size + 1 ≤ R ∧ IntSet wo R m (reachN n.edges n.starts (t.data.toList.take k)) ∧ Below (w.heap.size + 1) W0 wo) (fun _ v9 _ => t.size - (intOf v9).toNat)
        case atStart => exact ⟨0, w1.heap.size, _, Nat.zero_le _, rfl, rfl, HMR.out, HS.out, HBL.out⟩
        case round =>
          clear q0 q1 q2 q3
          obtain ⟨k, R, m, hk, rfl, rfl, hR, hset, hbel⟩ := hrel
          have HS2 := hid hset
          have HBO := hid hbel
          clear hset hbel HS HBL
          obtain ⟨q0, q1, q2, q3⟩ := HBOX.out wr HBO.out
          by_cases hlt : k < t.size
          · go_upto_if 42 with (at_len; refine wpList_set_len _ (by rfl) _ 90 rfl 3 91 Tryd.underlying90 R m _ rfl HS2.out ?_; intro sz hszm hsz0; have HS0 := hid hsz0; clear hsz0)
            by_cases hsz : sz = 0
            · have hnil := reach_none HS0.out hsz (reachN_in n.edges HEE.out _ _ (fun x hx => HRS.out x hx)) (by omega)
              have HSF := hid (show IntSet wr R m (reachN n.edges n.starts t.data.toList) by rw [reachN_end _ _ _ _ hnil, ← hnil]; exact HS2.out)
              rw [show decide (0 < sz) = false from decide_eq_false (by omega)]
              clear hnil HS0 HS2 hsz
              go_wp2_with fail
              obtain ⟨RS, hRS⟩ : ∃ RS, RS = reachN n.edges n.starts t.data.toList := ⟨_, rfl⟩
              rw [← hRS] at HSF
              have HYES2 := hid (show takesN n t.data.toList = (n.ends.any fun s => decide (s ∈ RS), 0) by rw [hRS]; exact HYES.out)
              clear hRS HYES
              go_loopw [77] (fun i wr => ∃ j : Nat, j ≤ n.ends.length ∧ i = .int .i64 j ∧ Hid (((n.ends.take j).any fun s => decide (s ∈ RS)) = false) ∧ IntSet wr R m RS ∧ Below (w.heap.size + 1) W0 wr) (fun i _ => n.ends.length - (intOf i).toNat)
              case atStart => exact ⟨0, Nat.zero_le _, rfl, hid (by simp), HSF.out, HBO.out⟩
              case round =>
                obtain ⟨j, hj, rfl, hany, hset, hbel⟩ := hrel
                have HS4 := hid hset
                have HB4 := hid hbel
                clear hset hbel q0 q1 q2 q3
                by_cases hlj : j < n.ends.length
                · obtain ⟨g, off, rfl, hFg, hx⟩ := ints_at (HN.out wr HB4.out).ends hlj
                  have hz := HRE.out _ (List.getElem_mem hlj)
                  have HWF := hid (wf_few hz.1 (by omega))
                  have HTK := hid (show ((n.ends.take (j + 1)).any fun s => decide (s ∈ RS)) = (((n.ends.take j).any fun s => decide (s ∈ RS)) || decide (n.ends[j] ∈ RS)) by rw [take_succ' _ _ hlj, List.any_append]; simp)
                  have HMEM := hid (List.getElem_mem hlj)
                  generalize n.ends[j] = z at *
                  clear hz
                  by_cases hzm : z ∈ RS
                  · have HD := hid (decide_eq_true hzm)
                    have HALL := hid (show takesN n t.data.toList = (true, 0) by rw [HYES2.out, List.any_eq_true.2 ⟨z, HMEM.out, HD.out⟩])
                    clear hzm
                    go_wp2_with (at_lookup; refine wpList_set_has _ rfl _ _ 90 rfl 3 91 Tryd.underlying3 Tryd.underlying90 (zeroUnit _) R m RS rfl HS4.out z rfl HWF.out ?_; rw [HD.out])
                    go_ret2
                    exact ⟨boolpair_eq HALL.out, HB.out _ (HB4.out.alloc (by have := HB4.out.size; have := HZ.out; omega) _)⟩
                  · have HD := hid (decide_eq_false hzm)
                    clear hzm
                    go_wp2_with (at_lookup; refine wpList_set_has _ rfl _ _ 90 rfl 3 91 Tryd.underlying3 Tryd.underlying90 (zeroUnit _) R m RS rfl HS4.out z rfl HWF.out ?_; rw [HD.out])
                    go_roundw
                    case rel => exact ⟨j + 1, by omega, by go_num, hid (by rw [HTK.out, hany.out, HD.out]; rfl), HS4.out.block (alloc_old HS4.out.lt), HB4.out.alloc (by have := HB4.out.size; have := HZ.out; omega) _⟩
                    case measure => simp [intOf]; omega
                · obtain rfl : j = n.ends.length := by omega
                  rw [List.take_length] at hany
                  have HALL := hid (show takesN n t.data.toList = (false, 0) by rw [HYES2.out, hany.out])
                  go_wp2_with fail
                  go_ret2
                  exact ⟨boolpair_eq HALL.out, HB.out _ HB4.out⟩
            · rw [show decide (0 < sz) = true from decide_eq_true (by omega)]
              clear hsz
              have hlk : k < t.data.toList.length := by rw [← HSL.out]; exact hlt
              have HRS2 := hid (reachN_snoc n.edges n.starts t.data.toList k hlk)
              have HCC := hid (show t.data.toList[k]'hlk = t[k]'hlt from rfl)
              obtain ⟨S, hS⟩ : ∃ S, S = reachN n.edges n.starts (t.data.toList.take k) := ⟨_, rfl⟩
              rw [← hS] at HS2 HRS2
              rw [HCC.out] at HRS2
              have hmx := HS2.out.lt
              have HA2 := hid (show Below (w.heap.size + 1) W0 (wr.alloc (.map #[] 0)) from HBO.out.alloc (by have := HBO.out.size; have := HZ.out; omega) _)
              have HSN := hid (SetAt.made Tryd.prog 3 wr)
              have HSR := hid (HS2.out.block (w' := wr.alloc (.map #[] 0)) (alloc_old HS2.out.lt))
              obtain ⟨N, hN⟩ : ∃ N, N = wr.heap.size := ⟨_, rfl⟩
              have hRN : R < N := by rw [hN]; exact hmx
              have hN1 : w.heap.size + 1 ≤ N := by have := HBO.out.size; have := HZ.out; omega
              rw [← hN] at HSN
              clear hS hlk hmx HCC HS0 q0 q1 q2 q3 HS2
              obtain ⟨q0, q1, q2, q3⟩ := HBOX.out _ HA2.out
              go_wp2_with fail
              go_step3
              go_wp2_with fail
              go_step3
              go_wp2_with fail
              rw [← hN]
              clear hN
              go_loopw [49] (fun i wr => ∃ j : Nat, j ≤ n.edges.length ∧ i = .int .i64 j ∧ IntSet wr N j (stepN (n.edges.take j) S (t[k]'hlt)) ∧ IntSet wr R m S ∧ Below (w.heap.size + 1) W0 wr) (fun i _ => n.edges.length - (intOf i).toNat)
              case atStart => exact ⟨0, Nat.zero_le _, rfl, HSN.out, HSR.out, HA2.out⟩
              case round =>
                clear q0 q1 q2 q3 HSN HSR HA2 HBO
                obtain ⟨j, hj, rfl, hsetN, hsetR, hbel⟩ := hrel
                have HSN := hid hsetN
                have HSR := hid hsetR
                have HB3 := hid hbel
                clear hsetN hsetR hbel
                by_cases hlj : j < n.edges.length
                · obtain ⟨g, off, rfl, hFg, c0, c1, c2, c3, c4, c5⟩ := (HN.out wr HB3.out).edges.at' hlj
                  have hz := HEE.out n.edges[j] (List.getElem_mem hlj)
                  have HNO := hid (stepN_snoc_no n.edges S (t[k]'hlt) j hlj)
                  have HYE := hid (stepN_snoc_yes n.edges S (t[k]'hlt) j hlj)
                  generalize n.edges[j] = e at *
                  have hz' : (0 ≤ e.fr ∧ e.fr < n.states) ∧ (0 ≤ e.dst ∧ e.dst < n.states) := by
                    unfold edgeOk stateOk at hz
                    simp only [Bool.and_eq_true, decide_eq_true_eq] at hz
                    exact ⟨hz.1.1, hz.1.2⟩
                  have HWF := hid (wf_few hz'.1.1 (by omega))
                  have HWD := hid (wf_few hz'.2.1 (by omega))
                  have hjm : j < maxLen := by unfold maxLen; omega
                  clear hz hz'
                  obtain ⟨W2, hW2⟩ : ∃ W2, W2 = wr.alloc (.cells e.cs 67) := ⟨_, rfl⟩
                  have HE2 := hid (show W2.heap[wr.heap.size]? = some (.cells e.cs 67 (0, 0)) by rw [hW2]; exact heap_alloc_new _ _)
                  have HSR2 := hid (HSR.out.block (w' := W2) (by rw [hW2]; exact alloc_old HSR.out.lt))
                  have HSN2 := hid (HSN.out.block (w' := W2) (by rw [hW2]; exact alloc_old HSN.out.lt))
                  have HB5 := hid (show Below (w.heap.size + 1) W0 W2 by rw [hW2]; exact HB3.out.alloc (by have := HB3.out.size; have := HZ.out; omega) _)
                  have hwn : N < wr.heap.size := HSN.out.lt
                  go_upto_region 16 with fail
                  rw [← hW2]
                  have HW2s := hid (show W2.heap.size = wr.heap.size + 1 by rw [hW2, World.size_alloc])
                  have k0 := cell_blk (i := 0) HE2.out rfl
                  clear hW2 c0 c1 c2 c3 c4 c5
                  by_cases hin : e.fr ∈ S
                  · have HD := hid (decide_eq_true hin)
                    clear hin
                    go_upto_region 18 with (at_lookup; refine wpList_set_has _ rfl _ _ 90 rfl 3 91 Tryd.underlying3 Tryd.underlying90 (zeroUnit _) R m S rfl HSR2.out e.fr rfl HWF.out ?_; rw [HD.out])
                    have HE3 := hid ((alloc_old (o := .cells #[] 91) (lt_of_heap HE2.out)).trans HE2.out)
                    obtain ⟨W3, hW3⟩ : ∃ W3, W3 = W2.alloc (.cells #[] 91) := ⟨_, rfl⟩
                    rw [← hW3] at HE3 ⊢
                    have HSR3 := hid (HSR2.out.block (w' := W3) (by rw [hW3]; exact alloc_old HSR2.out.lt))
                    have HSN3 := hid (HSN2.out.block (w' := W3) (by rw [hW3]; exact alloc_old HSN2.out.lt))
                    have HB6 := hid (show Below (w.heap.size + 1) W0 W3 by rw [hW3]; exact HB5.out.alloc (by have := HB5.out.size; have := HZ.out; omega) _)
                    clear hW3 k0
                    have k2 := cell_blk (i := 2) HE3.out rfl
                    have k3 := cell_blk (i := 3) HE3.out rfl
                    have k4 := cell_blk (i := 4) HE3.out rfl
                    have k5 := cell_blk (i := 5) HE3.out rfl
                    by_cases hbit : hasS e.st (t[k]'hlt).toNat = true
                    · have HHB := hid hbit
                      clear hbit
                      go_region_with ((go_at_call 63; refine (has_any_c e.st (t[k]'hlt) _).mono ?_; rintro e' w5 ⟨rfl, hb5⟩; rw [HHB.out]; have hb5' : Below W3.heap.size W3 w5 := (((Below.refl _ W3).drew).trans hb5); have HB7 := hid hb5'; have p1 := cell_blk (i := 1) ((hb5'.block _ (lt_of_heap HE3.out)).trans HE3.out) rfl; clear hb5 hb5'))
                      all_goals
                        have HSN5 := hid (HSN3.out.block (HB7.out.block _ HSN3.out.lt))
                        have HSR5 := hid (HSR3.out.block (HB7.out.block _ HSR3.out.lt))
                        have HB8 := hid (HB6.out.trans (HB7.out.mono (by have := HB6.out.size; have := HZ.out; omega)))
                        go_wp2_with (at_mapUpdate; refine wpList_set_put _ rfl _ _ _ 90 rfl 3 91 Tryd.underlying3 Tryd.underlying90 N j _ rfl HSN5.out hjm e.dst rfl rfl HWD.out ?_; intro w6 hs6 ht6; have HS6 := hid hs6; have HT6 := hid ht6; clear hs6 ht6)
                        go_roundw
                        case rel => exact ⟨j + 1, by omega, by go_num, by rw [HYE.out (by rw [HD.out, HHB.out]; rfl)]; exact HS6.out, HSR5.out.block (turned_blk HT6.out (by omega) HSR5.out.lt), below_turned HB8.out HT6.out hN1 (by have := HB8.out.size; have := HZ.out; omega)⟩
                        case measure => simp [intOf]; omega
                    · have hbit' : hasS e.st (t[k]'hlt).toNat = false := by simpa using hbit
                      have HHB := hid hbit'
                      clear hbit hbit'
                      go_region_with ((go_at_call 63; refine (has_any_c e.st (t[k]'hlt) _).mono ?_; rintro e' w5 ⟨rfl, hb5⟩; rw [HHB.out]; have hb5' : Below W3.heap.size W3 w5 := (((Below.refl _ W3).drew).trans hb5); have HB7 := hid hb5'; clear hb5 hb5'))
                      all_goals
                        have HSN5 := hid (HSN3.out.block (HB7.out.block _ HSN3.out.lt))
                        have HSR5 := hid (HSR3.out.block (HB7.out.block _ HSR3.out.lt))
                        have HB8 := hid (HB6.out.trans (HB7.out.mono (by have := HB6.out.size; have := HZ.out; omega)))
                        go_wp2_with fail
                        go_roundw
                        case rel => exact ⟨j + 1, by omega, by go_num, by rw [HNO.out (by rw [HD.out, HHB.out]; rfl)]; exact HSN5.out.mono (Nat.le_succ _), HSR5.out, HB8.out⟩
                        case measure => simp [intOf]; omega
                  · have HD := hid (decide_eq_false hin)
                    clear hin
                    go_wp2_with (at_lookup; refine wpList_set_has _ rfl _ _ 90 rfl 3 91 Tryd.underlying3 Tryd.underlying90 (zeroUnit _) R m S rfl HSR2.out e.fr rfl HWF.out ?_; rw [HD.out])
                    go_roundw
                    case rel => exact ⟨j + 1, by omega, by go_num, by rw [HNO.out (by rw [HD.out]; rfl)]; exact (HSN2.out.block (alloc_old HSN2.out.lt)).mono (Nat.le_succ _), HSR2.out.block (alloc_old HSR2.out.lt), HB5.out.alloc (by have := HB5.out.size; have := HZ.out; omega) _⟩
                    case measure => simp [intOf]; omega
                · obtain rfl : j = n.edges.length := by omega
                  rw [List.take_length] at HSN
                  go_wp2_with fail
                  rw [Exit.noGoto_normal]
                  go_wp2_with fail
                  go_roundw
                  case rel => exact ⟨k + 1, N, _, by omega, by go_num, rfl, hN1, by rw [HRS2.out]; exact HSN.out, HB3.out⟩
                  case measure => simp [intOf]; omega
          · obtain rfl : k = t.size := by omega
            have HSF := hid (show IntSet wr R m (reachN n.edges n.starts t.data.toList) by
              have h := HS2.out
              rw [HSL.out, List.take_length] at h
              exact h)
            clear HS2
            go_wp2_with fail
            obtain ⟨RS, hRS⟩ : ∃ RS, RS = reachN n.edges n.starts t.data.toList := ⟨_, rfl⟩
            rw [← hRS] at HSF
            have HYES2 := hid (show takesN n t.data.toList = (n.ends.any fun s => decide (s ∈ RS), 0) by rw [hRS]; exact HYES.out)
            clear hRS HYES
            go_loopw [77] (fun i wr => ∃ j : Nat, j ≤ n.ends.length ∧ i = .int .i64 j ∧ Hid (((n.ends.take j).any fun s => decide (s ∈ RS)) = false) ∧ IntSet wr R m RS ∧ Below (w.heap.size + 1) W0 wr) (fun i _ => n.ends.length - (intOf i).toNat)
            case atStart => exact ⟨0, Nat.zero_le _, rfl, hid (by simp), HSF.out, HBO.out⟩
            case round =>
              obtain ⟨j, hj, rfl, hany, hset, hbel⟩ := hrel
              have HS4 := hid hset
              have HB4 := hid hbel
              clear hset hbel q0 q1 q2 q3
              by_cases hlj : j < n.ends.length
              · obtain ⟨g, off, rfl, hFg, hx⟩ := ints_at (HN.out wr HB4.out).ends hlj
                have hz := HRE.out _ (List.getElem_mem hlj)
                have HWF := hid (wf_few hz.1 (by omega))
                have HTK := hid (show ((n.ends.take (j + 1)).any fun s => decide (s ∈ RS)) = (((n.ends.take j).any fun s => decide (s ∈ RS)) || decide (n.ends[j] ∈ RS)) by rw [take_succ' _ _ hlj, List.any_append]; simp)
                have HMEM := hid (List.getElem_mem hlj)
                generalize n.ends[j] = z at *
                clear hz
                by_cases hzm : z ∈ RS
                · have HD := hid (decide_eq_true hzm)
                  have HALL := hid (show takesN n t.data.toList = (true, 0) by rw [HYES2.out, List.any_eq_true.2 ⟨z, HMEM.out, HD.out⟩])
                  clear hzm
                  go_wp2_with (at_lookup; refine wpList_set_has _ rfl _ _ 90 rfl 3 91 Tryd.underlying3 Tryd.underlying90 (zeroUnit _) R m RS rfl HS4.out z rfl HWF.out ?_; rw [HD.out])
                  go_ret2
                  exact ⟨boolpair_eq HALL.out, HB.out _ (HB4.out.alloc (by have := HB4.out.size; have := HZ.out; omega) _)⟩
                · have HD := hid (decide_eq_false hzm)
                  clear hzm
                  go_wp2_with (at_lookup; refine wpList_set_has _ rfl _ _ 90 rfl 3 91 Tryd.underlying3 Tryd.underlying90 (zeroUnit _) R m RS rfl HS4.out z rfl HWF.out ?_; rw [HD.out])
                  go_roundw
                  case rel => exact ⟨j + 1, by omega, by go_num, hid (by rw [HTK.out, hany.out, HD.out]; rfl), HS4.out.block (alloc_old HS4.out.lt), HB4.out.alloc (by have := HB4.out.size; have := HZ.out; omega) _⟩
                  case measure => simp [intOf]; omega
              · obtain rfl : j = n.ends.length := by omega
                rw [List.take_length] at hany
                have HALL := hid (show takesN n t.data.toList = (false, 0) by rw [HYES2.out, hany.out])
                go_wp2_with fail
                go_ret2
                exact ⟨boolpair_eq HALL.out, HB.out _ HB4.out⟩
  · rw [errOf_false (by simpa using hok)]
    have HNO := hid (takesN_bad (t := t.data.toList) hok)
    clear hok
    go_wp2_with fail
    go_ret2
    exact ⟨boolpair_eq HNO.out, HB.out _ H1.out⟩
end Go.Proofs.YtfjomnhdmkbkiaaDoor.Im
