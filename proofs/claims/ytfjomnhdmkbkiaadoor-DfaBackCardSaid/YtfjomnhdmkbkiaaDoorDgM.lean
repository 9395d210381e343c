/-
  The walk of DfaBack: as one of many ways it takes the same, and made one of one way again, too.
-/
import Derived.Test.YtfjomnhdmkbkiaaDoorDgK
import Derived.Test.YtfjomnhdmkbkiaaDoorDgJ
import Derived.Test.YtfjomnhdmkbkiaaDoorDgG
namespace Go.Proofs.YtfjomnhdmkbkiaaDoor.Im
open Go.RowKit Go.Lib Go.Maps Go.Shelf

/-- a truth, and what it says if it is true -/
def FewB (d : Dfa) (e : Ending) : Prop := ∃ x : Bool, e = .returned (.bool x) ∧ (x = true → d.next.length ≤ 40 ∧ ∀ row ∈ d.next, row.length ≤ 20)
theorem FewB.no (d : Dfa) : FewB d (.returned (.bool false)) := ⟨false, rfl, fun h => by cases h⟩
theorem FewB.yes {d : Dfa} (x : Bool) (h1 : d.next.length ≤ 40) (h2 : ∀ row ∈ d.next, row.length ≤ 20) : FewB d (.returned (.bool x)) := ⟨x, rfl, fun _ => ⟨h1, h2⟩⟩
theorem few_take {d : Dfa} {k : Nat} (hk : k < d.next.length) (h : ∀ row ∈ d.next.take k, row.length ≤ 20) (hx : ¬ 20 < d.next[k].length) : ∀ row ∈ d.next.take (k + 1), row.length ≤ 20 := fun row hr => by
  rw [take_succ' _ _ hk] at hr
  rcases List.mem_append.1 hr with hr | hr
  · exact h row hr
  · rw [List.mem_singleton.1 hr]; omega
set_option maxRecDepth 100000 in
set_option maxHeartbeats 4000000 in
theorem few_says {F : Nat → Prop} {w : World} {a b c : Value} {d : Dfa} (hd : DfaIn F w a b c d) (hF : ∀ g, F g → g < w.heap.size) :
    Calls Tryd.prog 17 #[.agg #[a, b, c]] w fun e w' => FewB d e ∧ Below w.heap.size w w' := by
  generalize hW0 : w.alloc (.cells #[a, b, c] 30) = W0
  have hDb : W0.heap[w.heap.size]? = some (.cells #[a, b, c] 30 (0, 0)) := by rw [← hW0]; exact heap_alloc_new _ _
  have hB0 : Below w.heap.size w W0 := by rw [← hW0]; exact (Below.refl _ _).alloc (Nat.le_refl _) _
  have HB0 := hid hB0
  have HN := hid (hd.next.frame (F' := F) (w' := W0) (fun _ h => h) (fun g hg _ => HB0.out.block g (hF g hg)))
  obtain ⟨ad1, cp1, rfl, hm1, _⟩ := hd.cls
  obtain ⟨ad2, cp2, rfl, hm2, _⟩ := hd.next
  obtain ⟨ad3, cp3, rfl, hm3, _⟩ := hd.fin
  have HDB := hid hDb
  clear hDb hB0 hd hF
  unfold maxLen at hm1 hm2 hm3
  obtain ⟨q0, q1, q2⟩ := dcells HDB.out
  go_enter Tryd.func17, Tryd.ntmps17
  go_wp2_with fail
  go_loop [3] (fun v => ∃ k : Nat, k ≤ d.next.length ∧ v = .int .i64 k ∧ Hid (∀ row ∈ d.next.take k, row.length ≤ 20)) (fun v => d.next.length - (intOf v).toNat)
  case atStart => exact ⟨0, Nat.zero_le _, rfl, hid (by simp)⟩
  case round =>
    obtain ⟨k, hk, rfl, hall⟩ := hrel
    by_cases hlt : k < d.next.length
    · by_cases h40 : d.next.length ≤ 40
      · obtain ⟨g, off, v, rfl, _, x1, hrow⟩ := rows_at HN.out hlt
        obtain ⟨adr, cpr, rfl, hmr, _⟩ := hrow
        unfold maxLen at hmr
        by_cases h20 : 20 < d.next[k].length
        · go_wp2_with fail
          go_ret
          exact ⟨FewB.no d, HB0.out⟩
        · have HNX := hid (few_take hlt hall.out h20)
          go_wp2_with fail
          go_round
          case rel => exact ⟨k + 1, by omega, by go_num, HNX⟩
          case measure => simp [intOf]; omega
      · go_wp2_with fail
        go_ret
        exact ⟨FewB.no d, HB0.out⟩
    · obtain rfl : k = d.next.length := by omega
      rw [List.take_length] at hall
      by_cases h40 : d.next.length ≤ 40
      · have HY := hid (fun x => FewB.yes x h40 hall.out)
        go_wp2_with fail
        go_ret
        exact ⟨HY.out _, HB0.out⟩
      · go_wp2_with fail
        go_ret
        exact ⟨FewB.no d, HB0.out⟩
theorem backFrom_fine (d : Dfa) (p : List Se) (hr : ∀ t, (d.next.getD t []).length ≤ 20) : ∀ (k s : Nat) (ends : List Int) (es : List Edge), es.length + 20 * k ≤ 65536 → ∃ r, backFrom d p k s ends es = .ok r
  | 0, s, ends, es, _ => ⟨_, rfl⟩
  | k + 1, s, ends, es, h => by
    have h1 := edgesOf_len s (d.next.getD s []) p
    have h2 := hr s
    rw [backFrom, if_neg (by rw [List.length_append]; omega)]
    exact backFrom_fine d p hr k (s + 1) _ _ (by rw [List.length_append]; omega)
theorem back_no {d : Dfa} {e : Int} (h : backM d = .error e) (hn : d.next.length ≤ 40) (hr : ∀ row ∈ d.next, row.length ≤ 20) : e = 1 ∧ dfaOk d = false := by
  by_cases hd : dfaOk d = true
  · rcases hx : setsOf d.cls with _ | p
    · have := dfaOk_none hx
      rw [hd] at this; cases this
    · rw [back_of hd hx] at h
      obtain ⟨⟨ends, es⟩, hb⟩ := backFrom_fine d p (fun t => by
        by_cases ht : t < d.next.length
        · exact hr _ (getD_mem ht [])
        · rw [List.getD_eq_getElem?_getD, List.getElem?_eq_none (by omega)]; simp) d.next.length 0 [] [] (by simp; omega)
      rw [hb] at h
      cases h
  · have hd' : dfaOk d = false := by simpa using hd
    rw [back_bad hd'] at h
    cases h
    exact ⟨rfl, hd'⟩
theorem back_sets {d : Dfa} {n : Nfa} (h : backM d = .ok n) : ∀ e ∈ n.edges, e.st.ok := by
  obtain ⟨hd, _, _⟩ := back_law h
  rcases hx : setsOf d.cls with _ | p
  · have := dfaOk_none hx
    rw [hd] at this; cases this
  · rw [back_of hd hx] at h
    cases hb : backFrom d p d.next.length 0 [] [] with
    | error e => rw [hb] at h; cases h
    | ok r =>
      obtain ⟨ends, es⟩ := r
      rw [hb] at h
      cases h
      obtain ⟨_, k2, _⟩ := backFrom_law d p _ 0 [] [] ends es hb (by simp)
      intro e he
      rcases (k2 e).1 he with h | ⟨t, _, _, h⟩
      · simp at h
      · obtain ⟨dst, _, _, rfl⟩ := mem_edgesOf.1 h
        exact byM_ok (setsOf_law hx).ok _ dst
set_option maxRecDepth 100000 in
set_option maxHeartbeats 8000000 in
theorem back_walk {F : Nat → Prop} {w : World} {a b c : Value} {d : Dfa} (hd : DfaIn F w a b c d) (hF : ∀ g, F g → g < w.heap.size) (t : ByteArray) (ht : t.size ≤ 140737488351232) (hT : Tab w) :
    Calls Tryd.prog 7 #[.agg #[a, b, c], .string t] w (AwPost w) := by
  generalize hW0 : w.alloc (.cells #[a, b, c] 30) = W0
  have hDb : W0.heap[w.heap.size]? = some (.cells #[a, b, c] 30 (0, 0)) := by rw [← hW0]; exact heap_alloc_new _ _
  have hz0 : W0.heap.size = w.heap.size + 1 := by rw [← hW0]; simp
  have hB0 : Below w.heap.size w W0 := by rw [← hW0]; exact (Below.refl _ _).alloc (Nat.le_refl _) _
  have HB := hid (fun (W : World) (h : Below (w.heap.size + 1) W0 W) => hB0.trans (h.mono (by omega)))
  have HD := hid (fun (W : World) (h : Below (w.heap.size + 1) W0 W) => (show DfaIn F W a b c d from hd.frame (fun _ h => h) (fun g hg _ => (HB.out W h).block g (hF g hg))))
  have HF := hid (fun (W : World) (h : Below (w.heap.size + 1) W0 W) (g : Nat) (hg : F g) => (show g < W.heap.size from Nat.lt_of_lt_of_le (hF g hg) (HB.out W h).size))
  have HBOX := hid (fun (W : World) (h : Below (w.heap.size + 1) W0 W) => dcells ((h.block w.heap.size (by omega)).trans hDb))
  have HT := hid (fun (W : World) (h : Below (w.heap.size + 1) W0 W) => (show Tab W from hT.below (HB.out W h)))
  obtain ⟨ad1, cp1, rfl, hm1, _⟩ := hd.cls
  obtain ⟨ad2, cp2, rfl, hm2, _⟩ := hd.next
  obtain ⟨ad3, cp3, rfl, hm3, _⟩ := hd.fin
  unfold maxLen at hm1 hm2 hm3
  have HW0 := hid hW0
  have HZ := hid hz0
  have HTH := hid (fun (W W' : World) (h : Below (w.heap.size + 1) W0 W) (h' : Below W.heap.size W W') => h.trans (h'.mono (by have := h.size; omega)))
  clear hd hF hT hDb hW0 hB0 hz0
  obtain ⟨q0, q1, q2⟩ := HBOX.out W0 (Below.refl _ _)
  go_enter Tryd.func7, Tryd.ntmps7
  go_wp2_with fail
  rw [HW0.out]
  refine (few_says (HD.out W0 (Below.refl _ _)) (HF.out W0 (Below.refl _ _))).mono ?_
  rintro e w1 ⟨⟨x, rfl, hfew⟩, hb1⟩
  have H1 := hid (HTH.out _ _ (Below.refl _ _) hb1)
  have HFEW := hid hfew
  clear q0 q1 q2 hb1 hfew
  cases x with
  | false =>
    go_wp2_with fail
    go_ret
    exact ⟨rfl, HB.out _ H1.out⟩
  | true =>
    have HFW := hid (HFEW.out rfl)
    clear HFEW
    by_cases h100 : 100 < t.size
    · have h100' : (100 : Int) < (t.size : Int) := by omega
      go_wp2_with fail
      go_ret
      exact ⟨rfl, HB.out _ H1.out⟩
    · have h100' : ¬ ((100 : Int) < (t.size : Int)) := by omega
      obtain ⟨q0, q1, q2⟩ := HBOX.out w1 H1.out
      have hbk := back_any (HD.out w1 H1.out) (HF.out w1 H1.out)
      go_wp2_with fail
      refine hbk.mono ?_
      clear hbk q0 q1 q2
      rintro e w2 hp
      cases hx : backM d with
      | error er =>
        rw [hx] at hp
        obtain ⟨rfl, hb2⟩ := hp
        have H2 := hid (HTH.out _ _ H1.out hb2)
        obtain ⟨rfl, hno⟩ := back_no hx HFW.out.1 HFW.out.2
        have HNO := hid hno
        clear hb2 hx hno
        go_upto_region 4 with fail
        have H3 := hid (show Below (w.heap.size + 1) W0 (w2.alloc (.cells #[.int .i64 0, .slice none 0 0, .slice none 0 0, .slice none 0 0] 25)) from H2.out.alloc (by have := H2.out.size; have := HZ.out; omega) _)
        generalize w2.alloc (.cells #[.int .i64 0, .slice none 0 0, .slice none 0 0, .slice none 0 0] 25) = w3 at *
        have haw := awake_any w3 (HT.out w3 H3.out)
        go_wp2_with fail
        refine haw.mono ?_
        clear haw
        rintro e w4 ⟨rfl, hb4⟩
        have H4 := hid (HTH.out _ _ H3.out hb4)
        clear hb4
        obtain ⟨q0, q1, q2⟩ := HBOX.out w4 H4.out
        have hch := dfaCheck_any (HD.out w4 H4.out) (HF.out w4 H4.out)
        rw [errOf_false HNO.out] at hch
        go_wp2_with fail
        refine hch.mono ?_
        clear hch q0 q1 q2
        rintro e w5 ⟨rfl, hb5⟩
        have H5 := hid (HTH.out _ _ H4.out hb5)
        clear hb5
        go_wp2_with fail
        go_ret
        exact ⟨rfl, HB.out _ H5.out⟩
      | ok n =>
        rw [hx] at hp
        obtain ⟨s1, n1, n2, n3, rfl, hn2, hb2⟩ := hp
        obtain ⟨hl1, hl2, hl3⟩ := back_law hx
        obtain ⟨m, hm, hml⟩ := back_again hx HFW.out.1 HFW.out.2
        obtain ⟨_, hl5, hl6⟩ := ofM_law hm
        have HST := hid (back_sets hx)
        have H2 := hid (HTH.out _ _ H1.out hb2)
        have HNOK := hid hl2
        have HM := hid hm
        have HML := hid hml
        have HSN := hid (hl3 t.data.toList)
        have HSM := hid (hl6 t.data.toList)
        obtain ⟨xv, hxv⟩ : ∃ xv, takesM d t.data.toList = (xv, 0) := ⟨_, takes_good hl1⟩
        have HXV := hid hxv
        obtain rfl : s1 = .int .i64 n.states := hn2.states
        obtain ⟨ada, cpa, rfl, hma, _⟩ := hn2.starts
        obtain ⟨adb, cpb, rfl, hmb, _⟩ := hn2.ends
        obtain ⟨adc, cpc, rfl, hmc, _⟩ := hn2.edges
        unfold maxLen at hma hmb hmc
        have HN2 := hid hn2
        clear hb2 hx hl1 hl2 hl3 hl5 hl6 hxv hn2 hm hml
        go_upto_region 4 with fail
        generalize hW3 : w2.alloc (.cells #[.int .i64 n.states, .slice ada n.starts.length cpa, .slice adb n.ends.length cpb, .slice adc n.edges.length cpc] 25) = w3
        have HX3 := hid (show w3.heap[w2.heap.size]? = some (.cells #[.int .i64 n.states, .slice ada n.starts.length cpa, .slice adb n.ends.length cpb, .slice adc n.edges.length cpc] 25 (0, 0)) by rw [← hW3]; exact heap_alloc_new _ _)
        have H3 := hid (show Below (w.heap.size + 1) W0 w3 by rw [← hW3]; exact H2.out.alloc (by have := H2.out.size; have := HZ.out; omega) _)
        have HZ3 := hid (show w3.heap.size = w2.heap.size + 1 by rw [← hW3, World.size_alloc])
        have HN3 := hid (fun (W : World) (h : Below w3.heap.size w3 W) => (show NfaIn (fun g => w1.heap.size ≤ g ∧ g < w2.heap.size) W (.int .i64 n.states) (.slice ada n.starts.length cpa) (.slice adb n.ends.length cpb) (.slice adc n.edges.length cpc) n from HN2.out.frame (fun _ h => h) (fun g hg hl => (h.block g (by have := HZ3.out; omega)).trans (by rw [← hW3]; exact alloc_old hl))))
        have HX := hid (fun (W : World) (h : Below w3.heap.size w3 W) => ncells ((h.block w2.heap.size (by have := HZ3.out; omega)).trans HX3.out))
        have HLT := hid (fun (W : World) (h : Below w3.heap.size w3 W) (g : Nat) (hg : w1.heap.size ≤ g ∧ g < w2.heap.size) => (show g < W.heap.size by have := h.size; have := HZ3.out; omega))
        clear hW3 HN2
        obtain ⟨q0, q1, q2, q3⟩ := HX.out w3 (Below.refl _ _)
        have hof := of_any (HN3.out w3 (Below.refl _ _)) (HLT.out w3 (Below.refl _ _)) (HT.out w3 H3.out) HST.out
        rw [HM.out] at hof
        go_wp2_with fail
        refine hof.mono ?_
        clear hof q0 q1 q2 q3
        rintro e w4 hp4
        obtain ⟨m1, m2, m3, rfl, hd4, hb4⟩ := hp4
        have HB34 := hid hb4
        have H4 := hid (HTH.out _ _ H3.out hb4)
        obtain ⟨am1, cm1, rfl, hmm1, _⟩ := hd4.cls
        obtain ⟨am2, cm2, rfl, hmm2, _⟩ := hd4.next
        obtain ⟨am3, cm3, rfl, hmm3, _⟩ := hd4.fin
        unfold maxLen at hmm1 hmm2 hmm3
        have HD4 := hid hd4
        clear hb4 hd4
        go_upto_region 7 with fail
        generalize hW5 : w4.alloc (.cells #[.slice am1 m.cls.length cm1, .slice am2 m.next.length cm2, .slice am3 m.fin.length cm3] 30) = w5
        have HX5 := hid (show w5.heap[w4.heap.size]? = some (.cells #[.slice am1 m.cls.length cm1, .slice am2 m.next.length cm2, .slice am3 m.fin.length cm3] 30 (0, 0)) by rw [← hW5]; exact heap_alloc_new _ _)
        have HB35 := hid (show Below w3.heap.size w3 w5 by rw [← hW5]; exact HB34.out.alloc HB34.out.size _)
        have H5 := hid (HTH.out _ _ H3.out HB35.out)
        have HZ5 := hid (show w5.heap.size = w4.heap.size + 1 by rw [← hW5, World.size_alloc])
        have HM5 := hid (fun (W : World) (h : Below w5.heap.size w5 W) => (show DfaIn (fun g => w3.heap.size ≤ g ∧ g < w4.heap.size) W (.slice am1 m.cls.length cm1) (.slice am2 m.next.length cm2) (.slice am3 m.fin.length cm3) m from HD4.out.frame (fun _ h => h) (fun g hg hl => (h.block g (by have := HZ5.out; omega)).trans (by rw [← hW5]; exact alloc_old hl))))
        have HXM := hid (fun (W : World) (h : Below w5.heap.size w5 W) => dcells ((h.block w4.heap.size (by have := HZ5.out; omega)).trans HX5.out))
        have HLM := hid (fun (W : World) (h : Below w5.heap.size w5 W) (g : Nat) (hg : w3.heap.size ≤ g ∧ g < w4.heap.size) => (show g < W.heap.size by have := h.size; have := HZ5.out; omega))
        have HUP := hid (fun (W : World) (h : Below w5.heap.size w5 W) => (show Below w3.heap.size w3 W from HB35.out.trans (h.mono HB35.out.size)))
        have HUQ := hid (fun (W W' : World) (h : Below w5.heap.size w5 W) (h' : Below W.heap.size W W') => (show Below w5.heap.size w5 W' from h.trans (h'.mono h.size)))
        clear hW5 HD4
        obtain ⟨q0, q1, q2⟩ := HBOX.out w5 H5.out
        have htk := takes_any (HD.out w5 H5.out) (HF.out w5 H5.out) t (by omega)
        rw [HXV.out] at htk
        go_wp2_with fail
        refine htk.mono ?_
        clear htk q0 q1 q2
        rintro e w6 ⟨rfl, hb6⟩
        have HB56 := hid hb6
        have H6 := hid (HTH.out _ _ H5.out hb6)
        clear hb6
        obtain ⟨q0, q1, q2, q3⟩ := HX.out w6 (HUP.out _ HB56.out)
        have hnt := ntakes_any (HN3.out w6 (HUP.out _ HB56.out)) (HLT.out w6 (HUP.out _ HB56.out)) t (by omega)
        rw [HSN.out, HXV.out] at hnt
        go_wp2_with fail
        refine hnt.mono ?_
        clear hnt q0 q1 q2 q3
        rintro e w7 ⟨rfl, hb7⟩
        have HB57 := hid (HUQ.out _ _ HB56.out hb7)
        have H7 := hid (HTH.out _ _ H6.out hb7)
        clear hb7
        obtain ⟨q0, q1, q2⟩ := HXM.out w7 HB57.out
        have htm := takes_any (HM5.out w7 HB57.out) (HLM.out w7 HB57.out) t (by omega)
        rw [HSM.out, HSN.out, HXV.out] at htm
        go_wp2_with fail
        refine htm.mono ?_
        clear htm q0 q1 q2
        rintro e w8 ⟨rfl, hb8⟩
        have HB58 := hid (HUQ.out _ _ HB57.out hb8)
        have H8 := hid (HTH.out _ _ H7.out hb8)
        clear hb8
        have haw := awake_any w8 (HT.out w8 H8.out)
        go_wp2_with fail
        refine haw.mono ?_
        clear haw
        rintro e w9 ⟨rfl, hb9⟩
        have HB59 := hid (HUQ.out _ _ HB58.out hb9)
        have H9 := hid (HTH.out _ _ H8.out hb9)
        clear hb9
        obtain ⟨q0, q1, q2, q3⟩ := HX.out w9 (HUP.out _ HB59.out)
        have hch := ncheck_any (HN3.out w9 (HUP.out _ HB59.out)) (HLT.out w9 (HUP.out _ HB59.out))
        rw [HNOK.out, errOf_yes] at hch
        go_wp2_with fail
        refine hch.mono ?_
        clear hch q0 q1 q2 q3
        rintro e wA ⟨rfl, hbA⟩
        have HB5A := hid (HUQ.out _ _ HB59.out hbA)
        have HA := hid (HTH.out _ _ H9.out hbA)
        clear hbA
        obtain ⟨q0, q1, q2⟩ := HXM.out wA HB5A.out
        obtain ⟨r0, r1, r2⟩ := HBOX.out wA HA.out
        have hml' : (m.next.length : Int) ≤ (d.next.length : Int) := by have := HML.out; omega
        cases xv with
        | true =>
          go_wp2_with fail
          go_ret
          exact ⟨rfl, HB.out _ HA.out⟩
        | false =>
          go_wp2_with fail
          go_ret
          exact ⟨rfl, HB.out _ HA.out⟩
end Go.Proofs.YtfjomnhdmkbkiaaDoor.Im
