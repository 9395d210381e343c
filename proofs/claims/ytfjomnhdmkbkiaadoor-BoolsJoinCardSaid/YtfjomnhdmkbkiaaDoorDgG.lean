/-
  The walk of DfaTakes: an automaton of one way takes what the one of many ways takes.
-/
import Derived.Test.YtfjomnhdmkbkiaaDoorDgC
import Derived.Test.YtfjomnhdmkbkiaaDoorDgF
namespace Go.Proofs.YtfjomnhdmkbkiaaDoor.Im
open Go.RowKit Go.Lib Go.Maps Go.Shelf

set_option maxRecDepth 100000 in
set_option maxHeartbeats 4000000 in
theorem nfew_some {F : Nat → Prop} {w : World} {s a b c : Value} {n : Nfa} (hn : NfaIn F w s a b c n) :
    Calls Tryd.prog 37 #[.agg #[s, a, b, c]] w fun e w' => SomeBool e ∧ Below w.heap.size w w' := by
  generalize hW0 : w.alloc (.cells #[s, a, b, c] 25) = W0
  have hDb : W0.heap[w.heap.size]? = some (.cells #[s, a, b, c] 25 (0, 0)) := by rw [← hW0]; exact heap_alloc_new _ _
  have hB0 : Below w.heap.size w W0 := by rw [← hW0]; exact (Below.refl _ _).alloc (Nat.le_refl _) _
  have HB0 := hid hB0
  have hsv := hn.states
  subst hsv
  obtain ⟨ada, cpa, rfl, hma, _⟩ := hn.starts
  obtain ⟨adb, cpb, rfl, hmb, _⟩ := hn.ends
  obtain ⟨adc, cpc, rfl, hmc, _⟩ := hn.edges
  unfold maxLen at hma hmb hmc
  have HW0 := hid hW0
  obtain ⟨q0, q1, q2, q3⟩ := ncells hDb
  clear hn hDb hB0
  go_enter Tryd.func37, Tryd.ntmps37
  by_cases h1 : n.states ≤ 40
  · by_cases h3 : n.edges.length ≤ 120
    · go_wp2_with fail
      go_ret
      exact ⟨⟨_, rfl⟩, HB0.out⟩
    · go_wp2_with fail
      go_ret
      exact ⟨⟨_, rfl⟩, HB0.out⟩
  · by_cases h2 : 4096 < n.states
    · by_cases h3 : n.edges.length ≤ 120
      · go_wp2_with fail
        go_ret
        exact ⟨⟨_, rfl⟩, HB0.out⟩
      · go_wp2_with fail
        go_ret
        exact ⟨⟨_, rfl⟩, HB0.out⟩
    · go_wp2_with fail
      go_ret
      exact ⟨⟨_, rfl⟩, HB0.out⟩
set_option maxRecDepth 100000 in
set_option maxHeartbeats 4000000 in
theorem small_some {F : Nat → Prop} {w : World} {s a b c : Value} {n : Nfa} (hn : NfaIn F w s a b c n) (hF : ∀ g, F g → g < w.heap.size) :
    Calls Tryd.prog 12 #[.agg #[s, a, b, c]] w fun e w' => SomeBool e ∧ Below w.heap.size w w' := by
  generalize hW0 : w.alloc (.cells #[s, a, b, c] 25) = W0
  have hDb : W0.heap[w.heap.size]? = some (.cells #[s, a, b, c] 25 (0, 0)) := by rw [← hW0]; exact heap_alloc_new _ _
  have hB0 : Below w.heap.size w W0 := by rw [← hW0]; exact (Below.refl _ _).alloc (Nat.le_refl _) _
  have hz0 : W0.heap.size = w.heap.size + 1 := by rw [← hW0]; simp
  have hfw := nfew_some (hn.frame (F' := F) (w' := W0) (fun _ h => h) (fun g hg _ => hB0.block g (hF g hg)))
  have HB0 := hid hB0
  have HDB := hid hDb
  have HZ := hid hz0
  have hsv := hn.states
  subst hsv
  obtain ⟨ada, cpa, rfl, hma, _⟩ := hn.starts
  obtain ⟨adb, cpb, rfl, hmb, _⟩ := hn.ends
  obtain ⟨adc, cpc, rfl, hmc, _⟩ := hn.edges
  unfold maxLen at hma hmb hmc
  have HW0 := hid hW0
  obtain ⟨q0, q1, q2, q3⟩ := ncells hDb
  clear hn hDb hB0 hW0 hz0
  go_enter Tryd.func12, Tryd.ntmps12
  go_wp2_with fail
  rw [HW0.out]
  refine hfw.mono ?_
  clear hfw
  rintro e w1 ⟨⟨x, rfl⟩, hb1⟩
  obtain ⟨r0, r1, r2, r3⟩ := ncells ((hb1.block w.heap.size (by rw [HZ.out]; omega)).trans HDB.out)
  have HB1 := hid (HB0.out.trans (hb1.mono (by rw [HZ.out]; omega)))
  clear q0 q1 q2 q3 hb1
  cases x with
  | false =>
    go_wp2_with fail
    go_ret
    exact ⟨⟨_, rfl⟩, HB1.out⟩
  | true =>
    by_cases h1 : n.states ≤ 7
    · go_wp2_with fail
      go_ret
      exact ⟨⟨_, rfl⟩, HB1.out⟩
    · go_wp2_with fail
      go_ret
      exact ⟨⟨_, rfl⟩, HB1.out⟩
theorem ofM_no {n : Nfa} {e : Int} (h : ofM n = .error e) : e = 2 ∨ (e = 1 ∧ nfaOk n = false) := by
  rcases ofM_err h with h1 | h1
  · exact .inl h1
  · unfold ofM at h
    rw [if_neg (by rw [h1]; decide)] at h
    cases h
    exact .inr ⟨rfl, h1⟩
set_option maxRecDepth 100000 in
set_option maxHeartbeats 8000000 in
theorem takes_walk {F : Nat → Prop} {w : World} {s a b c : Value} {n : Nfa} (hn : NfaIn F w s a b c n) (hF : ∀ g, F g → g < w.heap.size) (hst : ∀ e ∈ n.edges, e.st.ok) (t : ByteArray) (ht : t.size ≤ 140737488351232) (hT : Tab w) :
    Calls Tryd.prog 6 #[.agg #[s, a, b, c], .string t] w (AwPost w) := by
  generalize hW0 : w.alloc (.cells #[s, a, b, c] 25) = W0
  have hDb : W0.heap[w.heap.size]? = some (.cells #[s, a, b, c] 25 (0, 0)) := by rw [← hW0]; exact heap_alloc_new _ _
  have hz0 : W0.heap.size = w.heap.size + 1 := by rw [← hW0]; simp
  have hB0 : Below w.heap.size w W0 := by rw [← hW0]; exact (Below.refl _ _).alloc (Nat.le_refl _) _
  have HB := hid (fun (W : World) (h : Below (w.heap.size + 1) W0 W) => hB0.trans (h.mono (by omega)))
  have HN := hid (fun (W : World) (h : Below (w.heap.size + 1) W0 W) => (show NfaIn F W s a b c n from hn.frame (fun _ h => h) (fun g hg _ => (HB.out W h).block g (hF g hg))))
  have HF := hid (fun (W : World) (h : Below (w.heap.size + 1) W0 W) (g : Nat) (hg : F g) => (show g < W.heap.size from Nat.lt_of_lt_of_le (hF g hg) (HB.out W h).size))
  have HBOX := hid (fun (W : World) (h : Below (w.heap.size + 1) W0 W) => ncells ((h.block w.heap.size (by omega)).trans hDb))
  have HT := hid (fun (W : World) (h : Below (w.heap.size + 1) W0 W) => (show Tab W from hT.below (HB.out W h)))
  have HST := hid hst
  have hsv := hn.states
  subst hsv
  obtain ⟨ada, cpa, rfl, hma, _⟩ := hn.starts
  obtain ⟨adb, cpb, rfl, hmb, _⟩ := hn.ends
  obtain ⟨adc, cpc, rfl, hmc, _⟩ := hn.edges
  unfold maxLen at hma hmb hmc
  have HW0 := hid hW0
  have HZ := hid hz0
  have HTH := hid (fun (W W' : World) (h : Below (w.heap.size + 1) W0 W) (h' : Below W.heap.size W W') => h.trans (h'.mono (by have := h.size; omega)))
  clear hn hF hT hDb hW0 hB0 hz0 hst
  obtain ⟨q0, q1, q2, q3⟩ := HBOX.out W0 (Below.refl _ _)
  go_enter Tryd.func6, Tryd.ntmps6
  go_wp2_with fail
  rw [HW0.out]
  refine (small_some (HN.out W0 (Below.refl _ _)) (HF.out W0 (Below.refl _ _))).mono ?_
  rintro e w1 ⟨⟨x, rfl⟩, hb1⟩
  have H1 := hid (HTH.out _ _ (Below.refl _ _) hb1)
  clear q0 q1 q2 q3 hb1
  cases x with
  | false =>
    go_wp2_with fail
    go_ret
    exact ⟨rfl, HB.out _ H1.out⟩
  | true =>
    by_cases h100 : 100 < t.size
    · have h100' : (100 : Int) < (t.size : Int) := by omega
      go_wp2_with fail
      go_ret
      exact ⟨rfl, HB.out _ H1.out⟩
    · have h100' : ¬ ((100 : Int) < (t.size : Int)) := by omega
      obtain ⟨q0, q1, q2, q3⟩ := HBOX.out w1 H1.out
      have hof := of_any (HN.out w1 H1.out) (HF.out w1 H1.out) (HT.out w1 H1.out) HST.out
      go_wp2_with fail
      refine hof.mono ?_
      clear hof q0 q1 q2 q3
      rintro e w2 hp
      cases hx : ofM n with
      | error er =>
        rw [hx] at hp
        obtain ⟨rfl, hb2⟩ := hp
        have H2 := hid (HTH.out _ _ H1.out hb2)
        clear hb2
        rcases ofM_no hx with rfl | ⟨rfl, hno⟩
        · clear hx
          go_upto_region 4 with fail
          have H3 := hid (show Below (w.heap.size + 1) W0 (w2.alloc (.cells #[.slice none 0 0, .slice none 0 0, .slice none 0 0] 30)) from H2.out.alloc (by have := H2.out.size; have := HZ.out; omega) _)
          generalize w2.alloc (.cells #[.slice none 0 0, .slice none 0 0, .slice none 0 0] 30) = w3 at *
          have haw := awake_any w3 (HT.out w3 H3.out)
          go_wp2_with fail
          refine haw.mono ?_
          clear haw
          rintro e w4 ⟨rfl, hb4⟩
          have H4 := hid (HTH.out _ _ H3.out hb4)
          clear hb4
          go_wp2_with fail
          go_ret
          exact ⟨rfl, HB.out _ H4.out⟩
        · have HNO := hid hno
          clear hx hno
          go_upto_region 4 with fail
          have H3 := hid (show Below (w.heap.size + 1) W0 (w2.alloc (.cells #[.slice none 0 0, .slice none 0 0, .slice none 0 0] 30)) from H2.out.alloc (by have := H2.out.size; have := HZ.out; omega) _)
          generalize w2.alloc (.cells #[.slice none 0 0, .slice none 0 0, .slice none 0 0] 30) = w3 at *
          have haw := awake_any w3 (HT.out w3 H3.out)
          go_wp2_with fail
          refine haw.mono ?_
          clear haw
          rintro e w4 ⟨rfl, hb4⟩
          have H4 := hid (HTH.out _ _ H3.out hb4)
          clear hb4
          obtain ⟨q0, q1, q2, q3⟩ := HBOX.out w4 H4.out
          have hch := ncheck_any (HN.out w4 H4.out) (HF.out w4 H4.out)
          rw [errOf_false HNO.out] at hch
          go_wp2_with fail
          refine hch.mono ?_
          clear hch q0 q1 q2 q3
          rintro e w5 ⟨rfl, hb5⟩
          have H5 := hid (HTH.out _ _ H4.out hb5)
          clear hb5
          go_wp2_with fail
          go_ret
          exact ⟨rfl, HB.out _ H5.out⟩
      | ok d =>
        rw [hx] at hp
        obtain ⟨d1, d2, d3, rfl, hd2, hb2⟩ := hp
        obtain ⟨hl1, hl2, hl3⟩ := ofM_law hx
        have H2 := hid (HTH.out _ _ H1.out hb2)
        have HOKD := hid hl2
        have HSAME := hid (hl3 t.data.toList)
        obtain ⟨xv, hxv⟩ : ∃ xv, takesM d t.data.toList = (xv, 0) := ⟨_, takes_good hl2⟩
        have HXV := hid hxv
        obtain ⟨ad1, cp1, rfl, hm1, _⟩ := hd2.cls
        obtain ⟨ad2, cp2, rfl, hm2, _⟩ := hd2.next
        obtain ⟨ad3, cp3, rfl, hm3, _⟩ := hd2.fin
        unfold maxLen at hm1 hm2 hm3
        have HD2 := hid hd2
        clear hb2 hx hl1 hl2 hl3 hxv hd2
        go_upto_region 4 with fail
        generalize hW3 : w2.alloc (.cells #[.slice ad1 d.cls.length cp1, .slice ad2 d.next.length cp2, .slice ad3 d.fin.length cp3] 30) = w3
        have HX3 := hid (show w3.heap[w2.heap.size]? = some (.cells #[.slice ad1 d.cls.length cp1, .slice ad2 d.next.length cp2, .slice ad3 d.fin.length cp3] 30 (0, 0)) by rw [← hW3]; exact heap_alloc_new _ _)
        have H3 := hid (show Below (w.heap.size + 1) W0 w3 by rw [← hW3]; exact H2.out.alloc (by have := H2.out.size; have := HZ.out; omega) _)
        have HZ3 := hid (show w3.heap.size = w2.heap.size + 1 by rw [← hW3, World.size_alloc])
        have HD3 := hid (fun (W : World) (h : Below w3.heap.size w3 W) => (show DfaIn (fun g => w1.heap.size ≤ g ∧ g < w2.heap.size) W (.slice ad1 d.cls.length cp1) (.slice ad2 d.next.length cp2) (.slice ad3 d.fin.length cp3) d from HD2.out.frame (fun _ h => h) (fun g hg hl => (h.block g (by have := HZ3.out; omega)).trans (by rw [← hW3]; exact alloc_old hl))))
        have HX := hid (fun (W : World) (h : Below w3.heap.size w3 W) => dcells ((h.block w2.heap.size (by have := HZ3.out; omega)).trans HX3.out))
        clear hW3 HD2
        obtain ⟨q0, q1, q2⟩ := HX.out w3 (Below.refl _ _)
        have htk := takes_any (HD3.out w3 (Below.refl _ _)) (fun g hg => by have := HZ3.out; omega) t (by omega)
        rw [HXV.out] at htk
        go_wp2_with fail
        refine htk.mono ?_
        clear htk q0 q1 q2
        rintro e w4 ⟨rfl, hb4⟩
        have HB34 := hid hb4
        have H4 := hid (HTH.out _ _ H3.out hb4)
        clear hb4
        obtain ⟨q0, q1, q2, q3⟩ := HBOX.out w4 H4.out
        have hnt := ntakes_any (HN.out w4 H4.out) (HF.out w4 H4.out) t (by omega)
        rw [← HSAME.out, HXV.out] at hnt
        go_wp2_with fail
        refine hnt.mono ?_
        clear hnt q0 q1 q2 q3
        rintro e w5 ⟨rfl, hb5⟩
        have HB35 := hid (HB34.out.trans (hb5.mono HB34.out.size))
        have H5 := hid (HTH.out _ _ H4.out hb5)
        clear hb5
        have haw := awake_any w5 (HT.out w5 H5.out)
        go_wp2_with fail
        refine haw.mono ?_
        clear haw
        rintro e w6 ⟨rfl, hb6⟩
        have HB36 := hid (HB35.out.trans (hb6.mono HB35.out.size))
        have H6 := hid (HTH.out _ _ H5.out hb6)
        clear hb6
        obtain ⟨q0, q1, q2⟩ := HX.out w6 HB36.out
        have hch := dfaCheck_any (HD3.out w6 HB36.out) (fun g hg => by have := HB36.out.size; have := HZ3.out; omega)
        rw [errOf_true HOKD.out] at hch
        go_wp2_with fail
        refine hch.mono ?_
        clear hch q0 q1 q2
        rintro e w7 ⟨rfl, hb7⟩
        have H7 := hid (HTH.out _ _ H6.out hb7)
        clear hb7
        cases xv with
        | true =>
          go_wp2_with fail
          go_ret
          exact ⟨rfl, HB.out _ H7.out⟩
        | false =>
          go_wp2_with fail
          go_ret
          exact ⟨rfl, HB.out _ H7.out⟩
end Go.Proofs.YtfjomnhdmkbkiaaDoor.Im
