/-
  The walk of DfaRuns: what dfa computes is what the document's answer computes.
-/
import Derived.Test.YtfjomnhdmkbkiaaDoorDgU
import Derived.Test.YtfjomnhdmkbkiaaDoorDgS
import Derived.Test.YtfjomnhdmkbkiaaDoorDgC
namespace Go.Proofs.YtfjomnhdmkbkiaaDoor.Im
open Go.RowKit Go.Lib Go.Maps Go.Shelf

/-- a truth, and what it says if it is true -/
def FewC (d : Dfa) (e : Ending) : Prop := ∃ x : Bool, e = .returned (.bool x) ∧ (x = true → d.next.length ≤ 40 ∧ ∀ row ∈ d.next, row.length ≤ 20)
theorem FewC.no (d : Dfa) : FewC d (.returned (.bool false)) := ⟨false, rfl, fun h => by cases h⟩
theorem FewC.yes {d : Dfa} (x : Bool) (h1 : d.next.length ≤ 40) (h2 : ∀ row ∈ d.next, row.length ≤ 20) : FewC d (.returned (.bool x)) := ⟨x, rfl, fun _ => ⟨h1, h2⟩⟩
theorem few_takeC {d : Dfa} {k : Nat} (hk : k < d.next.length) (h : ∀ row ∈ d.next.take k, row.length ≤ 20) (hx : ¬ 20 < d.next[k].length) : ∀ row ∈ d.next.take (k + 1), row.length ≤ 20 := fun row hr => by
  rw [take_succ' _ _ hk] at hr
  rcases List.mem_append.1 hr with hr | hr
  · exact h row hr
  · rw [List.mem_singleton.1 hr]; omega
set_option maxRecDepth 100000 in
set_option maxHeartbeats 4000000 in
theorem few_tells {F : Nat → Prop} {w : World} {a b c : Value} {d : Dfa} (hd : DfaIn F w a b c d) (hF : ∀ g, F g → g < w.heap.size) :
    Calls Tryd.prog 17 #[.agg #[a, b, c]] w fun e w' => FewC d e ∧ Below w.heap.size w w' := by
  generalize hW0 : w.alloc (.cells #[a, b, c] 30) = W0
  have hDb : W0.heap[w.heap.size]? = some (.cells #[a, b, c] 30 (0, 0)) := by rw [← hW0]; exact heap_alloc_new _ _
  have hB0 : Below w.heap.size w W0 := by rw [← hW0]; exact (Below.refl _ _).alloc (Nat.le_refl _) _
  have HB0 := hid hB0
  have HN := hid (hd.next.frame (F' := F) (w' := W0) (fun _ h => h) (fun g hg _ => HB0.out.block g (hF g hg)))
  obtain ⟨ad1, cp1, rfl, hm1, _⟩ := hd.cls
  obtain ⟨ad2, cp2, rfl, hm2, _⟩ := hd.next
  obtain ⟨ad3, cp3, rfl, hm3, _⟩ := hd.fin
  have HDB := hid hDb
  clear hDb hB0 hd hF
  unfold maxLen at hm1 hm2 hm3
  obtain ⟨q0, q1, q2⟩ := dcells HDB.out
  go_enter Tryd.func17, Tryd.ntmps17
  go_wp2_with fail
  go_loop [3] (fun v => ∃ k : Nat, k ≤ d.next.length ∧ v = .int .i64 k ∧ Hid (∀ row ∈ d.next.take k, row.length ≤ 20)) (fun v => d.next.length - (intOf v).toNat)
  case atStart => exact ⟨0, Nat.zero_le _, rfl, hid (by simp)⟩
  case round =>
    obtain ⟨k, hk, rfl, hall⟩ := hrel
    by_cases hlt : k < d.next.length
    · by_cases h40 : d.next.length ≤ 40
      · obtain ⟨g, off, v, rfl, _, x1, hrow⟩ := rows_at HN.out hlt
        obtain ⟨adr, cpr, rfl, hmr, _⟩ := hrow
        unfold maxLen at hmr
        by_cases h20 : 20 < d.next[k].length
        · go_wp2_with fail
          go_ret
          exact ⟨FewC.no d, HB0.out⟩
        · have HNX := hid (few_takeC hlt hall.out h20)
          go_wp2_with fail
          go_round
          case rel => exact ⟨k + 1, by omega, by go_num, HNX⟩
          case measure => simp [intOf]; omega
      · go_wp2_with fail
        go_ret
        exact ⟨FewC.no d, HB0.out⟩
    · obtain rfl : k = d.next.length := by omega
      rw [List.take_length] at hall
      by_cases h40 : d.next.length ≤ 40
      · have HY := hid (fun x => FewC.yes x h40 hall.out)
        go_wp2_with fail
        go_ret
        exact ⟨HY.out _, HB0.out⟩
      · go_wp2_with fail
        go_ret
        exact ⟨FewC.no d, HB0.out⟩
def nfaOf (x : Except Int Nfa) : Nfa := match x with | .error _ => Nfa.zero | .ok n => n
def codeOf (x : Except Int Nfa) : Int := match x with | .error e => e | .ok _ => 0
theorem text_uni {w w' : World} {x : Except Int Nfa} {e : Ending} (h : TextPost w x e w') : ∃ s a b c, e = .returned (.tuple #[.agg #[s, a, b, c], .int .i64 (codeOf x)]) ∧ NfaIn (fun g => w.heap.size ≤ g ∧ g < w'.heap.size) w' s a b c (nfaOf x) ∧ Below w.heap.size w w' := by
  cases x with
  | error er =>
    obtain ⟨h1, h2⟩ := h
    have nil : ∀ {α : Type} {R : Value → α → Prop}, Row (fun g => w.heap.size ≤ g ∧ g < w'.heap.size) w' R (.slice none 0 0) [] := fun {_ _} => ⟨none, 0, rfl, Nat.zero_le _, fun h => absurd rfl h⟩
    exact ⟨_, _, _, _, h1, ⟨rfl, nil, nil, ⟨none, 0, rfl, Nat.zero_le _, fun h => absurd rfl h⟩⟩, h2⟩
  | ok n => exact h
set_option maxRecDepth 100000 in
set_option maxHeartbeats 8000000 in
theorem runs_walk {F : Nat → Prop} {w : World} {a b c : Value} {d : Dfa} (hd : DfaIn F w a b c d) (hF : ∀ g, F g → g < w.heap.size) (s : Int) (t : ByteArray) (ht : t.size ≤ 140737488351232) (hT : Tab w) :
    Calls Tryd.prog 5 #[.agg #[a, b, c], .int .i64 s, .string t] w (AwPost w) := by
  generalize hW0 : w.alloc (.cells #[a, b, c] 30) = W0
  have hDb : W0.heap[w.heap.size]? = some (.cells #[a, b, c] 30 (0, 0)) := by rw [← hW0]; exact heap_alloc_new _ _
  have hz0 : W0.heap.size = w.heap.size + 1 := by rw [← hW0]; simp
  have hB0 : Below w.heap.size w W0 := by rw [← hW0]; exact (Below.refl _ _).alloc (Nat.le_refl _) _
  have HB := hid (fun (W : World) (h : Below (w.heap.size + 1) W0 W) => hB0.trans (h.mono (by omega)))
  have HD := hid (fun (W : World) (h : Below (w.heap.size + 1) W0 W) => (show DfaIn F W a b c d from hd.frame (fun _ h => h) (fun g hg _ => (HB.out W h).block g (hF g hg))))
  have HF := hid (fun (W : World) (h : Below (w.heap.size + 1) W0 W) (g : Nat) (hg : F g) => (show g < W.heap.size from Nat.lt_of_lt_of_le (hF g hg) (HB.out W h).size))
  have HBOX := hid (fun (W : World) (h : Below (w.heap.size + 1) W0 W) => dcells ((h.block w.heap.size (by omega)).trans hDb))
  have HT := hid (fun (W : World) (h : Below (w.heap.size + 1) W0 W) => (show Tab W from hT.below (HB.out W h)))
  obtain ⟨ad1, cp1, rfl, hm1, _⟩ := hd.cls
  obtain ⟨ad2, cp2, rfl, hm2, _⟩ := hd.next
  obtain ⟨ad3, cp3, rfl, hm3, _⟩ := hd.fin
  unfold maxLen at hm1 hm2 hm3
  have HD0 := hid hDb
  have HW0 := hid hW0
  have HZ := hid hz0
  have HTH := hid (fun (W W' : World) (h : Below (w.heap.size + 1) W0 W) (h' : Below W.heap.size W W') => h.trans (h'.mono (by have := h.size; omega)))
  clear hd hF hT hDb hW0 hB0 hz0
  obtain ⟨q0, q1, q2⟩ := HBOX.out W0 (Below.refl _ _)
  go_enter Tryd.func5, Tryd.ntmps5
  go_wp2_with fail
  rw [HW0.out]
  refine (few_tells (HD.out W0 (Below.refl _ _)) (HF.out W0 (Below.refl _ _))).mono ?_
  rintro e w1 ⟨⟨x, rfl, hfew⟩, hb1⟩
  have H1 := hid (HTH.out _ _ (Below.refl _ _) hb1)
  have HFEW := hid hfew
  clear q0 q1 q2 hb1 hfew
  cases x with
  | false =>
    go_wp2_with fail
    go_ret
    exact ⟨rfl, HB.out _ H1.out⟩
  | true =>
    have HFW := hid (HFEW.out rfl)
    clear HFEW
    by_cases h100 : 100 < t.size
    · have h100' : (100 : Int) < (t.size : Int) := by omega
      go_wp2_with fail
      go_ret
      exact ⟨rfl, HB.out _ H1.out⟩
    · have h100' : ¬ ((100 : Int) < (t.size : Int)) := by omega
      obtain ⟨q0, q1, q2⟩ := HBOX.out w1 H1.out
      have hr := run_any (HD.out w1 H1.out) (HF.out w1 H1.out) s t (by omega)
      have hrR := fun (w2 : World) (H2 : Below (w.heap.size + 1) W0 w2) => runR_any (HD.out w2 H2) (HF.out w2 H2) s t (by omega)
      have htk := fun (w2 : World) (H2 : Below (w.heap.size + 1) W0 w2) => takes_any (HD.out w2 H2) (HF.out w2 H2) t (by omega)
      have htR := fun (w2 : World) (H2 : Below (w.heap.size + 1) W0 w2) => takesR_any (HD.out w2 H2) (HF.out w2 H2) t (by omega)
      generalize (runM d s t.data.toList).1 = kv at *
      generalize (runM d s t.data.toList).2 = ke at *
      generalize (takesM d t.data.toList).1 = tv at *
      generalize (takesM d t.data.toList).2 = te at *
      have HRR := hid hrR
      have HTK := hid htk
      have HTR := hid htR
      clear hrR htk htR
      go_wp2_with fail
      refine hr.mono ?_
      clear hr q0 q1 q2
      rintro e w2 ⟨rfl, hb2⟩
      have H2 := hid (HTH.out _ _ H1.out hb2)
      clear hb2
      obtain ⟨q0, q1, q2⟩ := HBOX.out w2 H2.out
      go_wp2_with fail
      refine (HRR.out w2 H2.out).mono ?_
      clear q0 q1 q2
      rintro e w3 ⟨rfl, hb3⟩
      have H3 := hid (HTH.out _ _ H2.out hb3)
      clear hb3
      obtain ⟨q0, q1, q2⟩ := HBOX.out w3 H3.out
      go_wp2_with fail
      refine (HTK.out w3 H3.out).mono ?_
      clear q0 q1 q2
      rintro e w4 ⟨rfl, hb4⟩
      have H4 := hid (HTH.out _ _ H3.out hb4)
      clear hb4
      obtain ⟨q0, q1, q2⟩ := HBOX.out w4 H4.out
      go_wp2_with fail
      refine (HTR.out w4 H4.out).mono ?_
      clear q0 q1 q2
      rintro e w5 ⟨rfl, hb5⟩
      have H5 := hid (HTH.out _ _ H4.out hb5)
      clear hb5
      obtain ⟨q0, q1, q2⟩ := HBOX.out w5 H5.out
      have hbk := back_any (HD.out w5 H5.out) (HF.out w5 H5.out)
      go_wp2_with fail
      refine hbk.mono ?_
      clear hbk q0 q1 q2
      rintro e w6 hp6
      obtain ⟨s1, a1, b1, c1, rfl, hn6, hb6⟩ := text_uni hp6
      have H6 := hid (HTH.out _ _ H5.out hb6)
      have hbR := fun (w7 : World) (H7 : Below (w.heap.size + 1) W0 w7) => backR_any (HD.out w7 H7) (HF.out w7 H7) HFW.out.1 HFW.out.2
      have HBR := hid (fun (w7 w8 : World) (e : Ending) (h : TextPost w7 (backM d) e w8) => text_uni h)
      have HBRR := hid hbR
      generalize backM d = xb at *
      generalize codeOf xb = ce at *
      generalize nfaOf xb = nb at *
      obtain rfl : s1 = .int .i64 nb.states := hn6.states
      obtain ⟨ada, cpa, rfl, hma, _⟩ := hn6.starts
      obtain ⟨adb, cpb, rfl, hmb, _⟩ := hn6.ends
      obtain ⟨adc, cpc, rfl, hmc, _⟩ := hn6.edges
      unfold maxLen at hma hmb hmc
      have HN6 := hid hn6
      clear hp6 hn6 hb6 hbR
      go_upto_region 8 with fail
      obtain ⟨w7, hW7⟩ : ∃ w7, w7 = w6.alloc (.cells #[.int .i64 nb.states, .slice ada nb.starts.length cpa, .slice adb nb.ends.length cpb, .slice adc nb.edges.length cpc] 25) := ⟨_, rfl⟩
      rw [← hW7]
      have HX7 := hid (show w7.heap[w6.heap.size]? = some (.cells #[.int .i64 nb.states, .slice ada nb.starts.length cpa, .slice adb nb.ends.length cpb, .slice adc nb.edges.length cpc] 25 (0, 0)) by rw [hW7]; exact heap_alloc_new _ _)
      have H7 := hid (show Below (w.heap.size + 1) W0 w7 by rw [hW7]; exact H6.out.alloc (by have := H6.out.size; have := HZ.out; omega) _)
      have HZ7 := hid (show w7.heap.size = w6.heap.size + 1 by rw [hW7, World.size_alloc])
      have HN7 := hid (fun (W : World) (h : Below w7.heap.size w7 W) => (show NfaIn (fun g => w5.heap.size ≤ g ∧ g < w6.heap.size) W (.int .i64 nb.states) (.slice ada nb.starts.length cpa) (.slice adb nb.ends.length cpb) (.slice adc nb.edges.length cpc) nb from HN6.out.frame (fun _ h => h) (fun g hg hl => (h.block g (by have := HZ7.out; omega)).trans (by rw [hW7]; exact alloc_old hl))))
      have HXX := hid (fun (W : World) (h : Below w7.heap.size w7 W) => ncells ((h.block w6.heap.size (by have := HZ7.out; omega)).trans HX7.out))
      clear hW7 HN6
      obtain ⟨q0, q1, q2⟩ := HBOX.out w7 H7.out
      go_wp2_with fail
      refine (HBRR.out w7 H7.out).mono ?_
      clear q0 q1 q2
      rintro e w8 hp8
      obtain ⟨s2, a2, b2, c2, rfl, hn8, hb8⟩ := HBR.out _ _ _ hp8
      obtain rfl : s2 = .int .i64 nb.states := hn8.states
      obtain ⟨ada', cpa', rfl, hma', _⟩ := hn8.starts
      obtain ⟨adb', cpb', rfl, hmb', _⟩ := hn8.ends
      obtain ⟨adc', cpc', rfl, hmc', _⟩ := hn8.edges
      unfold maxLen at hma' hmb' hmc'
      have HN8 := hid hn8
      have HB78 := hid hb8
      have H8 := hid (HTH.out _ _ H7.out hb8)
      clear hp8 hn8 hb8
      go_upto_region 9 with fail
      obtain ⟨w9, hW9⟩ : ∃ w9, w9 = w8.alloc (.cells #[.int .i64 nb.states, .slice ada' nb.starts.length cpa', .slice adb' nb.ends.length cpb', .slice adc' nb.edges.length cpc'] 25) := ⟨_, rfl⟩
      rw [← hW9]
      have HX9 := hid (show w9.heap[w8.heap.size]? = some (.cells #[.int .i64 nb.states, .slice ada' nb.starts.length cpa', .slice adb' nb.ends.length cpb', .slice adc' nb.edges.length cpc'] 25 (0, 0)) by rw [hW9]; exact heap_alloc_new _ _)
      have HB79 := hid (show Below w7.heap.size w7 w9 by rw [hW9]; exact HB78.out.alloc HB78.out.size _)
      have HZ9 := hid (show w9.heap.size = w8.heap.size + 1 by rw [hW9, World.size_alloc])
      have HN9 := hid (fun (W : World) (h : Below w9.heap.size w9 W) => (show NfaIn (fun g => w7.heap.size ≤ g ∧ g < w8.heap.size) W (.int .i64 nb.states) (.slice ada' nb.starts.length cpa') (.slice adb' nb.ends.length cpb') (.slice adc' nb.edges.length cpc') nb from HN8.out.frame (fun _ h => h) (fun g hg hl => (h.block g (by have := HZ9.out; omega)).trans (by rw [hW9]; exact alloc_old hl))))
      have HYY := hid (fun (W : World) (h : Below w9.heap.size w9 W) => ncells ((h.block w8.heap.size (by have := HZ9.out; omega)).trans HX9.out))
      have HL7 := hid (fun (W : World) (h : Below w9.heap.size w9 W) (g : Nat) (hg : w5.heap.size ≤ g ∧ g < w6.heap.size) => (show g < W.heap.size by have := h.size; have := HB79.out.size; have := HZ7.out; omega))
      have HL9 := hid (fun (W : World) (h : Below w9.heap.size w9 W) (g : Nat) (hg : w7.heap.size ≤ g ∧ g < w8.heap.size) => (show g < W.heap.size by have := h.size; have := HZ9.out; omega))
      have HU7 := hid (fun (W : World) (h : Below w9.heap.size w9 W) => (show Below w7.heap.size w7 W from HB79.out.trans (h.mono HB79.out.size)))
      have HU0 := hid (fun (W : World) (h : Below w9.heap.size w9 W) => (show Below (w.heap.size + 1) W0 W from HTH.out _ _ H7.out (HU7.out W h)))
      have HUQ := hid (fun (W W' : World) (h : Below w9.heap.size w9 W) (h' : Below W.heap.size W W') => (show Below w9.heap.size w9 W' from h.trans (h'.mono h.size)))
      clear hW9 HN8
      have HSS := hid (fun (W : World) (h : Below w9.heap.size w9 W) => (show (fun W : World => W.heap[w.heap.size]? = some (.cells #[.slice ad1 d.cls.length cp1, .slice ad2 d.next.length cp2, .slice ad3 d.fin.length cp3] 30 (0, 0)) ∧ W.heap[w6.heap.size]? = some (.cells #[.int .i64 nb.states, .slice ada nb.starts.length cpa, .slice adb nb.ends.length cpb, .slice adc nb.edges.length cpc] 25 (0, 0)) ∧ W.heap[w8.heap.size]? = some (.cells #[.int .i64 nb.states, .slice ada' nb.starts.length cpa', .slice adb' nb.ends.length cpb', .slice adc' nb.edges.length cpc'] 25 (0, 0))) W from ⟨((HU0.out W h).block w.heap.size (by omega)).trans HD0.out, ((HU7.out W h).block w6.heap.size (by have := HZ7.out; omega)).trans HX7.out, (h.block w8.heap.size (by have := HZ9.out; omega)).trans HX9.out⟩))
      have HCUR := hid (Below.refl w9.heap.size w9).drew
      have HS := hid (HSS.out _ HCUR.out)
      have hch := fun (W : World) (h : Below (w.heap.size + 1) W0 W) => dfaCheck_any (HD.out W h) (HF.out W h)
      have hcR := fun (W : World) (h : Below (w.heap.size + 1) W0 W) => checkR_any (HD.out W h) (HF.out W h)
      generalize errOf (dfaOk d) = ec at *
      have HCH := hid hch
      have HCR := hid hcR
      clear hch hcR
      refine Till.start (S := (fun W : World => W.heap[w.heap.size]? = some (.cells #[.slice ad1 d.cls.length cp1, .slice ad2 d.next.length cp2, .slice ad3 d.fin.length cp3] 30 (0, 0)) ∧ W.heap[w6.heap.size]? = some (.cells #[.int .i64 nb.states, .slice ada nb.starts.length cpa, .slice adb nb.ends.length cpb, .slice adc nb.edges.length cpc] 25 (0, 0)) ∧ W.heap[w8.heap.size]? = some (.cells #[.int .i64 nb.states, .slice ada' nb.starts.length cpa', .slice adb' nb.ends.length cpb', .slice adc' nb.edges.length cpc'] 25 (0, 0)))) (n := 38) (by kernel_rfl) ?_
      refine Till.all (rs := [0]) (by kernel_rfl) (by simp) (Each.cons rfl (fun K hK => ?_) Each.nil)
      go_simp
      refine (awake_any _ (HT.out _ (HU0.out _ HCUR.out))).mono ?_
      rintro e' wA ⟨rfl, hb'⟩
      have HCUR := hid (HUQ.out _ _ HCUR.out hb')
      have HS := hid (HSS.out _ HCUR.out)
      refine hK _ _ (fun _ => HS.out) ?_
      clear hK K hb'
      refine Till.take (i := 1) (v := .bool true) rfl (by kernel_rfl) (fun _ _ _ h => h) (Or.inl ⟨by rfl, fun w hS => by go_simp⟩) HS.out ?_
      simp only [Act.put, List.getElem_toArray, List.getElem_cons_zero, List.getElem_cons_succ, List.setIfInBounds_toArray, List.set_cons_zero, List.set_cons_succ]
      refine Till.take (i := 2) (v := .agg #[.slice ad1 d.cls.length cp1, .slice ad2 d.next.length cp2, .slice ad3 d.fin.length cp3]) rfl (by kernel_rfl) (fun _ _ _ h => h) (Or.inl ⟨by rfl, fun w hS => by have k0 := cell_blk (i := 0) hS.1 rfl; have k1 := cell_blk (i := 1) hS.1 rfl; have k2 := cell_blk (i := 2) hS.1 rfl; go_simp⟩) HS.out ?_
      simp only [Act.put, List.getElem_toArray, List.getElem_cons_zero, List.getElem_cons_succ, List.setIfInBounds_toArray, List.set_cons_zero, List.set_cons_succ]
      refine Till.take (i := 4) (v := .agg #[.slice ad1 d.cls.length cp1, .slice ad2 d.next.length cp2, .slice ad3 d.fin.length cp3]) rfl (by kernel_rfl) (fun _ _ _ h => h) (Or.inl ⟨by rfl, fun w hS => by have k0 := cell_blk (i := 0) hS.1 rfl; have k1 := cell_blk (i := 1) hS.1 rfl; have k2 := cell_blk (i := 2) hS.1 rfl; go_simp⟩) HS.out ?_
      simp only [Act.put, List.getElem_toArray, List.getElem_cons_zero, List.getElem_cons_succ, List.setIfInBounds_toArray, List.set_cons_zero, List.set_cons_succ]
      refine Till.all (rs := [3]) (by kernel_rfl) (by simp) (Each.cons rfl (fun K hK => ?_) Each.nil)
      go_simp
      refine (HCH.out _ (HU0.out _ HCUR.out)).mono ?_
      rintro e' wB ⟨rfl, hb'⟩
      have HCUR := hid (HUQ.out _ _ HCUR.out hb')
      have HS := hid (HSS.out _ HCUR.out)
      refine hK _ _ (fun _ => HS.out) ?_
      clear hK K hb'
      refine Till.all (rs := [5]) (by kernel_rfl) (by simp) (Each.cons rfl (fun K hK => ?_) Each.nil)
      go_simp
      refine (HCR.out _ (HU0.out _ HCUR.out)).mono ?_
      rintro e' wC ⟨rfl, hb'⟩
      have HCUR := hid (HUQ.out _ _ HCUR.out hb')
      have HS := hid (HSS.out _ HCUR.out)
      refine hK _ _ (fun _ => HS.out) ?_
      clear hK K hb'
      refine Till.take (i := 6) (v := .bool true) rfl (by kernel_rfl) (fun _ _ _ h => h) (Or.inl ⟨by rfl, fun w hS => by go_simp⟩) HS.out ?_
      simp only [Act.put, List.getElem_toArray, List.getElem_cons_zero, List.getElem_cons_succ, List.setIfInBounds_toArray, List.set_cons_zero, List.set_cons_succ]
      refine Till.take (i := 7) (v := .bool true) rfl (by kernel_rfl) (fun _ _ _ h => h) (Or.inl ⟨by rfl, fun w hS => by go_simp⟩) HS.out ?_
      simp only [Act.put, List.getElem_toArray, List.getElem_cons_zero, List.getElem_cons_succ, List.setIfInBounds_toArray, List.set_cons_zero, List.set_cons_succ]
      refine Till.take (i := 8) (v := .bool true) rfl (by kernel_rfl) (fun _ _ _ h => h) (Or.inl ⟨by rfl, fun w hS => by go_simp⟩) HS.out ?_
      simp only [Act.put, List.getElem_toArray, List.getElem_cons_zero, List.getElem_cons_succ, List.setIfInBounds_toArray, List.set_cons_zero, List.set_cons_succ]
      refine Till.take (i := 9) (v := .int .i64 kv) rfl (by kernel_rfl) (fun _ _ _ h => h) (Or.inl ⟨by rfl, fun w hS => by go_simp⟩) HS.out ?_
      simp only [Act.put, List.getElem_toArray, List.getElem_cons_zero, List.getElem_cons_succ, List.setIfInBounds_toArray, List.set_cons_zero, List.set_cons_succ]
      refine Till.take (i := 10) (v := .int .i64 kv) rfl (by kernel_rfl) (fun _ _ _ h => h) (Or.inl ⟨by rfl, fun w hS => by go_simp⟩) HS.out ?_
      simp only [Act.put, List.getElem_toArray, List.getElem_cons_zero, List.getElem_cons_succ, List.setIfInBounds_toArray, List.set_cons_zero, List.set_cons_succ]
      refine Till.take (i := 11) (v := .bool true) rfl (by kernel_rfl) (fun _ _ _ h => h) (Or.inl ⟨by rfl, fun w hS => by go_simp⟩) HS.out ?_
      simp only [Act.put, List.getElem_toArray, List.getElem_cons_zero, List.getElem_cons_succ, List.setIfInBounds_toArray, List.set_cons_zero, List.set_cons_succ]
      refine Till.take (i := 12) (v := .bool true) rfl (by kernel_rfl) (fun _ _ _ h => h) (Or.inl ⟨by rfl, fun w hS => by go_simp⟩) HS.out ?_
      simp only [Act.put, List.getElem_toArray, List.getElem_cons_zero, List.getElem_cons_succ, List.setIfInBounds_toArray, List.set_cons_zero, List.set_cons_succ]
      refine Till.take (i := 13) (v := .bool true) rfl (by kernel_rfl) (fun _ _ _ h => h) (Or.inl ⟨by rfl, fun w hS => by go_simp⟩) HS.out ?_
      simp only [Act.put, List.getElem_toArray, List.getElem_cons_zero, List.getElem_cons_succ, List.setIfInBounds_toArray, List.set_cons_zero, List.set_cons_succ]
      refine Till.take (i := 14) (v := .int .i64 ke) rfl (by kernel_rfl) (fun _ _ _ h => h) (Or.inl ⟨by rfl, fun w hS => by go_simp⟩) HS.out ?_
      simp only [Act.put, List.getElem_toArray, List.getElem_cons_zero, List.getElem_cons_succ, List.setIfInBounds_toArray, List.set_cons_zero, List.set_cons_succ]
      refine Till.take (i := 15) (v := .int .i64 ke) rfl (by kernel_rfl) (fun _ _ _ h => h) (Or.inl ⟨by rfl, fun w hS => by go_simp⟩) HS.out ?_
      simp only [Act.put, List.getElem_toArray, List.getElem_cons_zero, List.getElem_cons_succ, List.setIfInBounds_toArray, List.set_cons_zero, List.set_cons_succ]
      refine Till.take (i := 16) (v := .bool true) rfl (by kernel_rfl) (fun _ _ _ h => h) (Or.inl ⟨by rfl, fun w hS => by go_simp⟩) HS.out ?_
      simp only [Act.put, List.getElem_toArray, List.getElem_cons_zero, List.getElem_cons_succ, List.setIfInBounds_toArray, List.set_cons_zero, List.set_cons_succ]
      refine Till.take (i := 17) (v := .bool true) rfl (by kernel_rfl) (fun _ _ _ h => h) (Or.inl ⟨by rfl, fun w hS => by go_simp⟩) HS.out ?_
      simp only [Act.put, List.getElem_toArray, List.getElem_cons_zero, List.getElem_cons_succ, List.setIfInBounds_toArray, List.set_cons_zero, List.set_cons_succ]
      refine Till.take (i := 18) (v := .bool true) rfl (by kernel_rfl) (fun _ _ _ h => h) (Or.inl ⟨by rfl, fun w hS => by go_simp⟩) HS.out ?_
      simp only [Act.put, List.getElem_toArray, List.getElem_cons_zero, List.getElem_cons_succ, List.setIfInBounds_toArray, List.set_cons_zero, List.set_cons_succ]
      refine Till.take (i := 19) (v := .bool tv) rfl (by kernel_rfl) (fun _ _ _ h => h) (Or.inl ⟨by rfl, fun w hS => by go_simp⟩) HS.out ?_
      simp only [Act.put, List.getElem_toArray, List.getElem_cons_zero, List.getElem_cons_succ, List.setIfInBounds_toArray, List.set_cons_zero, List.set_cons_succ]
      refine Till.take (i := 20) (v := .bool tv) rfl (by kernel_rfl) (fun _ _ _ h => h) (Or.inl ⟨by rfl, fun w hS => by go_simp⟩) HS.out ?_
      simp only [Act.put, List.getElem_toArray, List.getElem_cons_zero, List.getElem_cons_succ, List.setIfInBounds_toArray, List.set_cons_zero, List.set_cons_succ]
      refine Till.take (i := 21) (v := .bool true) rfl (by kernel_rfl) (fun _ _ _ h => h) (Or.inl ⟨by rfl, fun w hS => by go_simp⟩) HS.out ?_
      simp only [Act.put, List.getElem_toArray, List.getElem_cons_zero, List.getElem_cons_succ, List.setIfInBounds_toArray, List.set_cons_zero, List.set_cons_succ]
      refine Till.take (i := 22) (v := .bool true) rfl (by kernel_rfl) (fun _ _ _ h => h) (Or.inl ⟨by rfl, fun w hS => by go_simp⟩) HS.out ?_
      simp only [Act.put, List.getElem_toArray, List.getElem_cons_zero, List.getElem_cons_succ, List.setIfInBounds_toArray, List.set_cons_zero, List.set_cons_succ]
      refine Till.take (i := 23) (v := .bool true) rfl (by kernel_rfl) (fun _ _ _ h => h) (Or.inl ⟨by rfl, fun w hS => by go_simp⟩) HS.out ?_
      simp only [Act.put, List.getElem_toArray, List.getElem_cons_zero, List.getElem_cons_succ, List.setIfInBounds_toArray, List.set_cons_zero, List.set_cons_succ]
      refine Till.take (i := 24) (v := .int .i64 te) rfl (by kernel_rfl) (fun _ _ _ h => h) (Or.inl ⟨by rfl, fun w hS => by go_simp⟩) HS.out ?_
      simp only [Act.put, List.getElem_toArray, List.getElem_cons_zero, List.getElem_cons_succ, List.setIfInBounds_toArray, List.set_cons_zero, List.set_cons_succ]
      refine Till.take (i := 25) (v := .int .i64 te) rfl (by kernel_rfl) (fun _ _ _ h => h) (Or.inl ⟨by rfl, fun w hS => by go_simp⟩) HS.out ?_
      simp only [Act.put, List.getElem_toArray, List.getElem_cons_zero, List.getElem_cons_succ, List.setIfInBounds_toArray, List.set_cons_zero, List.set_cons_succ]
      refine Till.take (i := 26) (v := .bool true) rfl (by kernel_rfl) (fun _ _ _ h => h) (Or.inl ⟨by rfl, fun w hS => by go_simp⟩) HS.out ?_
      simp only [Act.put, List.getElem_toArray, List.getElem_cons_zero, List.getElem_cons_succ, List.setIfInBounds_toArray, List.set_cons_zero, List.set_cons_succ]
      refine Till.take (i := 27) (v := .bool true) rfl (by kernel_rfl) (fun _ _ _ h => h) (Or.inl ⟨by rfl, fun w hS => by go_simp⟩) HS.out ?_
      simp only [Act.put, List.getElem_toArray, List.getElem_cons_zero, List.getElem_cons_succ, List.setIfInBounds_toArray, List.set_cons_zero, List.set_cons_succ]
      refine Till.take (i := 28) (v := .bool true) rfl (by kernel_rfl) (fun _ _ _ h => h) (Or.inl ⟨by rfl, fun w hS => by go_simp⟩) HS.out ?_
      simp only [Act.put, List.getElem_toArray, List.getElem_cons_zero, List.getElem_cons_succ, List.setIfInBounds_toArray, List.set_cons_zero, List.set_cons_succ]
      refine Till.take (i := 29) (v := .agg #[.int .i64 nb.states, .slice ada nb.starts.length cpa, .slice adb nb.ends.length cpb, .slice adc nb.edges.length cpc]) rfl (by kernel_rfl) (fun _ _ _ h => h) (Or.inl ⟨by rfl, fun w hS => by have k0 := cell_blk (i := 0) hS.2.1 rfl; have k1 := cell_blk (i := 1) hS.2.1 rfl; have k2 := cell_blk (i := 2) hS.2.1 rfl; have k3 := cell_blk (i := 3) hS.2.1 rfl; go_simp⟩) HS.out ?_
      simp only [Act.put, List.getElem_toArray, List.getElem_cons_zero, List.getElem_cons_succ, List.setIfInBounds_toArray, List.set_cons_zero, List.set_cons_succ]
      refine Till.take (i := 30) (v := .agg #[.int .i64 nb.states, .slice ada' nb.starts.length cpa', .slice adb' nb.ends.length cpb', .slice adc' nb.edges.length cpc']) rfl (by kernel_rfl) (fun _ _ _ h => h) (Or.inl ⟨by rfl, fun w hS => by have k0 := cell_blk (i := 0) hS.2.2 rfl; have k1 := cell_blk (i := 1) hS.2.2 rfl; have k2 := cell_blk (i := 2) hS.2.2 rfl; have k3 := cell_blk (i := 3) hS.2.2 rfl; go_simp⟩) HS.out ?_
      simp only [Act.put, List.getElem_toArray, List.getElem_cons_zero, List.getElem_cons_succ, List.setIfInBounds_toArray, List.set_cons_zero, List.set_cons_succ]
      refine Till.all (rs := [31]) (by kernel_rfl) (by simp) (Each.cons rfl (fun K hK => ?_) Each.nil)
      go_simp
      refine (nsame_yes (HN7.out _ (HU7.out _ HCUR.out)) (HN9.out _ HCUR.out) (HL7.out _ HCUR.out) (HL9.out _ HCUR.out)).mono ?_
      rintro e' wD ⟨rfl, hb'⟩
      have HCUR := hid (HUQ.out _ _ HCUR.out hb')
      have HS := hid (HSS.out _ HCUR.out)
      refine hK _ _ (fun _ => HS.out) ?_
      clear hK K hb'
      refine Till.take (i := 32) (v := .bool true) rfl (by kernel_rfl) (fun _ _ _ h => h) (Or.inl ⟨by rfl, fun w hS => by go_simp⟩) HS.out ?_
      simp only [Act.put, List.getElem_toArray, List.getElem_cons_zero, List.getElem_cons_succ, List.setIfInBounds_toArray, List.set_cons_zero, List.set_cons_succ]
      refine Till.take (i := 33) (v := .bool true) rfl (by kernel_rfl) (fun _ _ _ h => h) (Or.inl ⟨by rfl, fun w hS => by go_simp⟩) HS.out ?_
      simp only [Act.put, List.getElem_toArray, List.getElem_cons_zero, List.getElem_cons_succ, List.setIfInBounds_toArray, List.set_cons_zero, List.set_cons_succ]
      refine Till.take (i := 34) (v := .int .i64 ce) rfl (by kernel_rfl) (fun _ _ _ h => h) (Or.inl ⟨by rfl, fun w hS => by go_simp⟩) HS.out ?_
      simp only [Act.put, List.getElem_toArray, List.getElem_cons_zero, List.getElem_cons_succ, List.setIfInBounds_toArray, List.set_cons_zero, List.set_cons_succ]
      refine Till.take (i := 35) (v := .int .i64 ce) rfl (by kernel_rfl) (fun _ _ _ h => h) (Or.inl ⟨by rfl, fun w hS => by go_simp⟩) HS.out ?_
      simp only [Act.put, List.getElem_toArray, List.getElem_cons_zero, List.getElem_cons_succ, List.setIfInBounds_toArray, List.set_cons_zero, List.set_cons_succ]
      refine Till.take (i := 36) (v := .bool true) rfl (by kernel_rfl) (fun _ _ _ h => h) (Or.inl ⟨by rfl, fun w hS => by go_simp⟩) HS.out ?_
      simp only [Act.put, List.getElem_toArray, List.getElem_cons_zero, List.getElem_cons_succ, List.setIfInBounds_toArray, List.set_cons_zero, List.set_cons_succ]
      refine Till.take (i := 37) (v := .bool true) rfl (by kernel_rfl) (fun _ _ _ h => h) (Or.inl ⟨by rfl, fun w hS => by go_simp⟩) HS.out ?_
      simp only [Act.put, List.getElem_toArray, List.getElem_cons_zero, List.getElem_cons_succ, List.setIfInBounds_toArray, List.set_cons_zero, List.set_cons_succ]
      refine Till.all (rs := [38]) (by kernel_rfl) (by simp) (Each.cons rfl (fun K hK => ?_) Each.nil)
      go_simp
      refine hK _ _ (fun h => absurd h (by decide)) ?_
      clear hK K
      refine Till.done (by kernel_rfl) ?_ _
      go_wp2_with fail
      go_ret
      exact ⟨rfl, HB.out _ (HU0.out _ HCUR.out)⟩
end Go.Proofs.YtfjomnhdmkbkiaaDoor.Im
