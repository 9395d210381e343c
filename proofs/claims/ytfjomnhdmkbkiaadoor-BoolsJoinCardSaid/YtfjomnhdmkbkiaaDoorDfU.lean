/-
  The contract of dfa.Of, where the parts have classes.
-/
import Derived.Test.YtfjomnhdmkbkiaaDoorDfY
namespace Go.Proofs.YtfjomnhdmkbkiaaDoor.Im
open Go.RowKit Go.Lib Go.Maps Go.Shelf

theorem up_len : ∀ (l : List Nat) (a b : Nat), l.Pairwise (· < ·) → (∀ x ∈ l, a ≤ x ∧ x < b) → l.length ≤ b - a
  | [], _, _, _, _ => by simp
  | x :: l, a, b, h, hb => by
    have h1 := List.pairwise_cons.1 h
    have h2 := hb x (by simp)
    have := up_len l (x + 1) b h1.2 fun y hy => ⟨h1.1 y hy, (hb y (by simp [hy])).2⟩
    simp; omega
theorem PartAt.few {l : List Se} {ks : List (List B)} {p : List Se} {fs : List Nat} (h : PartAt l 256 ks p fs) : p.length ≤ 256 := by
  have := up_len fs 0 256 h.up fun x hx => ⟨Nat.zero_le _, h.lt x hx⟩
  have := h.len
  omega
theorem infoEs : (Tryd.prog.info? 23).map (fun i => (i.zero, i.size, i.bytes)) = some (some (.slice none 0 0), 1, 24) := by kernel_rfl
attribute [local go_sem] Oper.semAt_some
theorem classFrom_len : ∀ (p : List Se) (i : Nat) (last : Int) (l cl : List Int), classFrom i last l p = some cl → cl.length = l.length
  | [], i, last, l, cl, h => by
    unfold classFrom at h
    split at h
    · cases h; rfl
    · cases h
  | s :: p, i, last, l, cl, h => by
    unfold classFrom at h
    split at h
    · cases h
    · split at h
      · cases h
      · split at h
        · cases h
        · rename_i l' hm
          rw [classFrom_len p _ _ _ _ h, (markM_at _ _ _ _ _ hm).1]
theorem classM_len {p : List Se} {cl : List Int} (h : classM p = some cl) : cl.length = 256 := by
  unfold classM at h
  rw [classFrom_len _ _ _ _ _ h, List.length_replicate]
theorem turn_setRow {S : Nat → Prop} {w : World} {g : Nat} (hg : S g) (cs : Array Value) : Turn S w (w.setRow g cs) :=
  ⟨rfl, rfl, rfl, by simp, fun k _ hk => setRow_other _ (fun e => hk (e ▸ hg))⟩
set_option maxRecDepth 100000 in
set_option maxHeartbeats 8000000 in
theorem of_main {F : Nat → Prop} {w : World} {s a b c : Value} {n : Nfa} {p : List Se} {cl : List Int} (hn : NfaIn F w s a b c n) (hF : ∀ g, F g → g < w.heap.size) (hT : Tab w) (hok : nfaOk n = true) (hst : ∀ e ∈ n.edges, e.st.ok)
    (hfew : (unlikeM [] n.edges).length ≤ 1024) (hp : partFrom (unlikeM [] n.edges) 256 0 [] [] = p) (hpl : p.length ≤ 256) (hpo : ∀ s ∈ p, s.ok) (hcl : classM p = some cl) :
    Calls Tryd.prog 13 #[.agg #[s, a, b, c]] w (OfPost w (match ofFrom n p 1026 0 [sortU n.starts] [] [] with | .error e => .error e | .ok (next, fin) => .ok ⟨cl, next, fin⟩)) := by
  have HN := hid hn
  have HF := hid hF
  have HT := hid hT
  have HOK := hid hok
  have HST := hid hst
  have HPL := hid hpl
  have HPO := hid hpo
  have HCL := hid hcl
  have HPP := hid hp
  have HFEW := hid hfew
  have hsv := hn.states
  subst hsv
  obtain ⟨ada, cpa, rfl, hma, _⟩ := hn.starts
  obtain ⟨adb, cpb, rfl, hmb, _⟩ := hn.ends
  obtain ⟨adc, cpc, rfl, hmc, _⟩ := hn.edges
  unfold maxLen at hma hmb hmc
  clear hn hF hT hok hst hfew hp hpo hcl
  refine calls_marks Tryd.func13 rfl ?_
  simp only [Tryd.ntmps13, List.size_toArray, List.length_cons, List.length_nil, Nat.reduceAdd, Nat.reduceSub, Array.replicate_succ, Array.replicate_zero, List.push_toArray, List.append_toArray, List.nil_append, List.cons_append]
  go_wp2_with fail
  have HX := hid (Fix.start w (.int .i64 n.states) (.slice ada n.starts.length cpa) (.slice adb n.ends.length cpb) (.slice adc n.edges.length cpc))
  generalize hW0 : ((w.alloc (.cells #[.int .i64 n.states, .slice ada n.starts.length cpa, .slice adb n.ends.length cpb, .slice adc n.edges.length cpc] 25)).alloc (.cells #[.slice none 0 0, .slice none 0 0, .slice none 0 0] 30)).alloc (.cells #[.int .i64 0] 31) = W0 at *
  clear hW0
  have hch := ncheck_any (HN.out.frame (F' := F) (w' := W0) (fun _ h => h) (fun g hg _ => HX.out.below.block g (HF.out g hg))) (fun g hg => by have := HF.out g hg; have := HX.out.size; omega)
  rw [HOK.out, errOf_yes] at hch
  refine hch.mono ?_
  rintro e w1 ⟨rfl, hb1⟩
  have HX1 := hid (HX.out.below' hb1)
  have HE1 := hid (EdgesIn.frame HN.out.edges (F' := F) (w' := w1) (fun _ h => h) (fun g hg _ => HX1.out.below.block g (HF.out g hg)))
  clear hch HX hb1
  have q3 := (ncells HX1.out.arg).2.2.2
  have hul := unlike_any HE1.out (fun g hg => by have := HF.out g hg; have := HX1.out.size; omega) (nfaOk_len HOK.out).2.2.1 HST.out
  clear HE1
  go_wp2_with fail
  refine hul.mono ?_
  rintro e w2 ⟨hb2, adu, cpu, rfl, hou⟩
  have HX2 := hid (HX1.out.below' hb2)
  have hpm := parts_any (sets_of_own hou rfl (by have := HFEW.out; unfold maxLen; omega)) (fun g hg => hg.2) HFEW.out
  rw [HPP.out] at hpm
  clear hul q3 hou hb2 HX1
  go_wp2_with fail
  refine hpm.mono ?_
  rintro e w3 ⟨hb3, adp, cpp, rfl, hop⟩
  have HX3 := hid (HX2.out.below' hb3)
  have HG3 := hid (SetsIn.frame (F' := fun g => w.heap.size + 3 ≤ g ∧ g < w3.heap.size) (w' := w3) (sets_of_own hop rfl (by unfold maxLen; omega)) (fun g hg => ⟨Nat.le_trans HX2.out.size hg.1, hg.2⟩) (fun _ _ _ => rfl))
  have hcm := class_any HG3.out (fun g hg => hg.2) (by omega) HPO.out (HT.out.below HX3.out.below) HCL.out
  clear hpm hop hb3 HX2
  go_wp2_with fail
  refine hcm.mono ?_
  rintro e w4 ⟨rfl, hcls, hb4⟩
  have HG4 := hid (SetsIn.frame HG3.out (F' := fun g => w.heap.size + 3 ≤ g ∧ g < w3.heap.size) (w' := w4) (fun _ h => h) (fun g hg _ => hb4.block g hg.2))
  have hC3 := HX3.out.size
  have hC4 := (own_lt hcls rfl).2
  have HX4 := hid (HX3.out.below' hb4)
  have HCS := hid hcls
  clear hcm hcls HX3 HG3 hb4
  generalize w3.heap.size = C at *
  have HL := hid (nfaOk_len HOK.out)
  obtain ⟨m, hm⟩ := Int.eq_ofNat_of_zero_le HL.out.1
  have hm4 : m ≤ 4096 := by have := HL.out.2.1; omega
  have HM := hid hm
  obtain ⟨ie, hie, hie0, hie1, hie2⟩ := info_parts infoEs
  have HIE := hid hie
  have HZE := hid (And.intro hie0 (And.intro hie1 hie2))
  have q0 := (ncells HX4.out.arg).1
  clear hie hie0 hie1 hie2 hm
  go_upto_region 10 with (at_make; refine wpList_make_full _ rfl _ _ 62 rfl w4.heap.size 23 ie (.slice none 0 0) 1 Tryd.underlying62 HIE.out HZE.out.1 HZE.out.2.1 .i64 .i64 _ _ m rfl rfl HM.out HM.out (by rw [HZE.out.2.2]; omega) (by unfold maxLen; omega) (Nat.le_refl _) ?_; intro w5 hown5 hgrow5)
  have hb5 : Below w4.heap.size w4 w5 := (Below.refl _ _).grown hgrow5 (Nat.le_refl _) (fun q hq => by cases hq)
  rw [made_rep (.slice none 0 0) m rfl] at hown5
  have h54 := (own_lt hown5 rfl)
  have HB6 := hid (show Below w4.heap.size w4 (w5.alloc (.cells #[.slice (some ⟨w4.heap.size, 0, none⟩) m m] 62)) from hb5.alloc hb5.size _)
  have HA6 := hid (hown5.alloc (.cells #[.slice (some ⟨w4.heap.size, 0, none⟩) m m] 62))
  have HB7 := hid (heap_alloc_new w5 (.cells #[.slice (some ⟨w4.heap.size, 0, none⟩) m m] 62))
  have HX6 := hid (HX4.out.below' HB6.out)
  have HG6 := hid (SetsIn.frame HG4.out (F' := fun g => w.heap.size + 3 ≤ g ∧ g < C) (fun _ h => h) (fun g hg _ => HB6.out.block g (Nat.lt_trans hg.2 hC4)))
  have HCS6 := hid (own_later HCS.out HB6.out)
  have HS6 := hid (show (w5.alloc (.cells #[.slice (some ⟨w4.heap.size, 0, none⟩) m m] 62)).heap.size = w5.heap.size + 1 by simp)
  generalize w5.alloc (.cells #[.slice (some ⟨w4.heap.size, 0, none⟩) m m] 62) = w6 at *
  have hgf : w4.heap.size < w5.heap.size := h54.2
  generalize w4.heap.size = gf at *
  generalize w5.heap.size = B7 at *
  clear hb5 hown5 hgrow5 h54 q0 HX4 HG4 HCS HB6
  have q63 := (ncells HX6.out.arg).2.2.2
  go_wp2_with fail
  have hel : n.edges.length ≤ 65536 := HL.out.2.2.1
  have hes6 := HS6.out
  obtain ⟨iE, hiE, hiE0, hiE1, hiE2⟩ := info_parts infoEdge
  have HIG := hid hiE
  have HZG := hid (And.intro hiE0 (And.intro hiE1 hiE2))
  clear q63 hiE hiE0 hiE1 hiE2
  go_loopw [60] (fun i wr => ∃ (k : Nat) (vs : List Value), k ≤ n.edges.length ∧ i = .int .i64 k ∧ FromAt wr (B7 + 1) gf m vs (n.edges.take k) ∧ Turn (fun g => g = gf) w6 wr) (fun i _ => n.edges.length - (intOf i).toNat)
  case atStart => exact ⟨0, _, Nat.zero_le _, rfl, FromAt.start HA6.out, Turn.refl _ _⟩
  case round =>
    obtain ⟨k, vs, hk, rfl, hfr, htu⟩ := hrel
    have HFR := hid hfr
    have HTU := hid htu
    clear hfr htu
    by_cases hlt : k < n.edges.length
    -- <cut
    · have HX := hid (HX6.out.turn HTU.out (fun g hg => by omega))
      obtain ⟨g, off, rfl, hFg, c0, c1, c2, c3, c4, c5⟩ := (EdgesIn.frame HN.out.edges (F' := F) (w' := wr) (fun _ h => h) (fun g hg _ => HX.out.below.block g (HF.out g hg))).at' hlt
      have hok := HL.out.2.2.2.2.2 n.edges[k] (List.getElem_mem hlt)
      have HTK := hid (take_succ' n.edges k hlt)
      obtain ⟨e, he⟩ : ∃ e, e = n.edges[k] := ⟨_, rfl⟩
      rw [← he] at c0 c1 c2 c3 c4 c5 hok HTK
      obtain ⟨fr, d, st⟩ := e
      dsimp only at c0 c1 c2 c3 c4 c5
      have hfr : 0 ≤ fr ∧ fr < (m : Int) := by
        unfold edgeOk stateOk at hok
        simp only [Bool.and_eq_true, decide_eq_true_eq] at hok
        have := hok.1.1
        rw [HM.out] at this
        exact this
      obtain ⟨x, rfl⟩ := Int.eq_ofNat_of_zero_le hfr.1
      have hxm : x < m := by omega
      have hvl : vs.length = m := by have := HFR.out.arr.1; simpa using this
      have hxv : x < vs.length := by omega
      have hrow := HFR.out.rows x vs[x] (List.getElem?_eq_getElem hxv)
      have hcx : wr.cell? ⟨gf, x, none⟩ = some vs[x] := by rw [HFR.out.arr.cellAt x (by omega), List.getElem?_eq_getElem hxv]
      have hgx := own_free (i := x) HFR.out.arr
      obtain ⟨v, hv⟩ : ∃ v, v = vs[x] := ⟨_, rfl⟩
      rw [← hv] at hrow hcx
      have HV := hid hv
      clear hv
      obtain ⟨adv, cpv, rfl⟩ := own_shape hrow
      have hz := HTU.out.size
      have hb7 : wr.heap[B7]? = some (.cells #[.slice (some ⟨gf, 0, none⟩) m m] 62 (0, 0)) := (HTU.out.block B7 (by omega) (by omega)).trans HB7.out
      have HROW := hid hrow
      have hll := leaving_len (n.edges.take k) x
      have hlk : (n.edges.take k).length ≤ 65536 := by rw [List.length_take]; omega
      clear hok he hfr hvl
      go_upto_region 13 with fail
      have hb9 : (wr.alloc (.cells (⟨(x : Int), d, st⟩ : Edge).cs 67)).heap[wr.heap.size]? = some (.cells (⟨(x : Int), d, st⟩ : Edge).cs 67 (0, 0)) := heap_alloc_new _ _
      have hgfl := (own_lt HFR.out.arr rfl).2
      have S0 := hid (show (fun W : World => W.heap[B7]? = some (.cells #[.slice (some ⟨gf, 0, none⟩) m m] 62 (0, 0)) ∧ W.heap[wr.heap.size]? = some (.cells (⟨(x : Int), d, st⟩ : Edge).cs 67 (0, 0)) ∧ W.cell? ⟨gf, x, none⟩ = some (.slice adv (leaving (n.edges.take k) x).length cpv)) (wr.alloc (.cells (⟨(x : Int), d, st⟩ : Edge).cs 67)).drew from ⟨(alloc_old (by omega)).trans hb7, hb9, (cell_heap (alloc_old hgfl)).trans hcx⟩)
      have SK := hid (fun (W W' : World) (hh : ∀ g, g < wr.heap.size + 1 → W'.heap[g]? = W.heap[g]?) (hS : (fun W : World => W.heap[B7]? = some (.cells #[.slice (some ⟨gf, 0, none⟩) m m] 62 (0, 0)) ∧ W.heap[wr.heap.size]? = some (.cells (⟨(x : Int), d, st⟩ : Edge).cs 67 (0, 0)) ∧ W.cell? ⟨gf, x, none⟩ = some (.slice adv (leaving (n.edges.take k) x).length cpv)) W) => (show (fun W : World => W.heap[B7]? = some (.cells #[.slice (some ⟨gf, 0, none⟩) m m] 62 (0, 0)) ∧ W.heap[wr.heap.size]? = some (.cells (⟨(x : Int), d, st⟩ : Edge).cs 67 (0, 0)) ∧ W.cell? ⟨gf, x, none⟩ = some (.slice adv (leaving (n.edges.take k) x).length cpv)) W' from ⟨(hh B7 (by omega)).trans hS.1, (hh _ (by omega)).trans hS.2.1, (cell_heap (hh gf (by omega))).trans hS.2.2⟩))
      have hxm' : (x : Int) < (m : Int) := by omega
      have hx0 : (0 : Int) ≤ (x : Int) := Int.natCast_nonneg x
      refine Till.start (S := fun W => W.heap[B7]? = some (.cells #[.slice (some ⟨gf, 0, none⟩) m m] 62 (0, 0)) ∧ W.heap[wr.heap.size]? = some (.cells (⟨(x : Int), d, st⟩ : Edge).cs 67 (0, 0)) ∧ W.cell? ⟨gf, x, none⟩ = some (.slice adv (leaving (n.edges.take k) x).length cpv)) (n := 12) (by kernel_rfl) ?_
      refine Till.take (i := 0) (v := .slice (some ⟨gf, 0, none⟩) m m) rfl (by kernel_rfl) (fun _ _ _ h => h) (Or.inl ⟨by rfl, fun w hS => by have k0 := cell_blk (i := 0) hS.1 rfl; go_simp⟩) S0.out ?_
      simp only [Act.put, List.getElem_toArray, List.getElem_cons_zero, List.setIfInBounds_toArray, List.set_cons_zero, List.set_cons_succ]
      refine Till.takePure (i := 1) (v := _) rfl (by kernel_rfl) (fun _ _ _ h => h) (Or.inl ⟨by rfl, fun w _ => by rfl⟩) (fun _ => S0.out) ?_
      simp only [Act.put, List.getElem_toArray, List.getElem_cons_zero, List.getElem_cons_succ, List.setIfInBounds_toArray, List.set_cons_zero, List.set_cons_succ]
      refine Till.take (i := 2) (v := .int .i64 (x : Int)) rfl (by kernel_rfl) (fun _ _ _ h => h) (Or.inl ⟨by rfl, fun w hS => by have k0 := cell_blk (i := 0) hS.2.1 rfl; go_simp⟩) S0.out ?_
      simp only [Act.put, List.getElem_toArray, List.getElem_cons_zero, List.getElem_cons_succ, List.setIfInBounds_toArray, List.set_cons_zero, List.set_cons_succ]
      refine Till.take (i := 3) (v := .slice (some ⟨gf, 0, none⟩) m m) rfl (by kernel_rfl) (fun _ _ _ h => h) (Or.inl ⟨by rfl, fun w hS => by have k0 := cell_blk (i := 0) hS.1 rfl; go_simp⟩) S0.out ?_
      simp only [Act.put, List.getElem_toArray, List.getElem_cons_zero, List.getElem_cons_succ, List.setIfInBounds_toArray, List.set_cons_zero, List.set_cons_succ]
      refine Till.takePure (i := 4) (v := _) rfl (by kernel_rfl) (fun _ _ _ h => h) (Or.inl ⟨by rfl, fun w _ => by rfl⟩) (fun _ => S0.out) ?_
      simp only [Act.put, List.getElem_toArray, List.getElem_cons_zero, List.getElem_cons_succ, List.setIfInBounds_toArray, List.set_cons_zero, List.set_cons_succ]
      refine Till.take (i := 5) (v := .int .i64 (x : Int)) rfl (by kernel_rfl) (fun _ _ _ h => h) (Or.inl ⟨by rfl, fun w hS => by have k0 := cell_blk (i := 0) hS.2.1 rfl; go_simp⟩) S0.out ?_
      simp only [Act.put, List.getElem_toArray, List.getElem_cons_zero, List.getElem_cons_succ, List.setIfInBounds_toArray, List.set_cons_zero, List.set_cons_succ]
      refine Till.takePure (i := 6) (v := .pointer (some ⟨gf, x, none⟩)) rfl (by kernel_rfl) (fun _ _ _ h => h) (Or.inl ⟨by rfl, fun w _ => by go_simp⟩) (fun _ => S0.out) ?_
      simp only [Act.put, List.getElem_toArray, List.getElem_cons_zero, List.getElem_cons_succ, List.setIfInBounds_toArray, List.set_cons_zero, List.set_cons_succ]
      refine Till.take (i := 7) (v := .slice adv (leaving (n.edges.take k) x).length cpv) rfl (by kernel_rfl) (fun _ _ _ h => h) (Or.inl ⟨by rfl, fun w hS => by have k0 := hS.2.2; go_simp⟩) S0.out ?_
      simp only [Act.put, List.getElem_toArray, List.getElem_cons_zero, List.getElem_cons_succ, List.setIfInBounds_toArray, List.set_cons_zero, List.set_cons_succ]
      refine Till.take (i := 8) (v := .agg (⟨(x : Int), d, st⟩ : Edge).cs) rfl (by kernel_rfl) (fun _ _ _ h => h) (Or.inl ⟨by rfl, fun w hS => by have k0 := cell_blk (i := 0) hS.2.1 rfl; have k1 := cell_blk (i := 1) hS.2.1 rfl; have k2 := cell_blk (i := 2) hS.2.1 rfl; have k3 := cell_blk (i := 3) hS.2.1 rfl; have k4 := cell_blk (i := 4) hS.2.1 rfl; have k5 := cell_blk (i := 5) hS.2.1 rfl; go_simp⟩) S0.out ?_
      simp only [Act.put, List.getElem_toArray, List.getElem_cons_zero, List.getElem_cons_succ, List.setIfInBounds_toArray, List.set_cons_zero, List.set_cons_succ]
      refine Till.all (rs := [9]) (by kernel_rfl) (by simp) (Each.cons rfl (fun K hK => ?_) Each.nil)
      go_simp
      have S1 := hid (SK.out _ (((wr.alloc (.cells (⟨(x : Int), d, st⟩ : Edge).cs 67)).alloc (.cells (⟨(x : Int), d, st⟩ : Edge).cs 67)).drew) (fun g hg => alloc_old (o := .cells (⟨(x : Int), d, st⟩ : Edge).cs 67) (w := wr.alloc (.cells (⟨(x : Int), d, st⟩ : Edge).cs 67)) (by rw [World.size_alloc]; exact hg)) S0.out)
      refine hK.out _ _ (fun _ => S1.out) ?_
      clear hK K
      refine Till.all (rs := [10]) (by kernel_rfl) (by simp) (Each.cons rfl (fun K hK => ?_) Each.nil)
      refine step_append_lies _ (by rfl) _ _ 23 rfl (B7 + 1) 67 iE _ 6 48 Tryd.underlying23 HIG.out HZG.out.1 HZG.out.2.1 HZG.out.2.2 rfl (by decide) (.slice adv (leaving (n.edges.take k) x).length cpv) (leaving (n.edges.take k) x).length (flatE (leaving (n.edges.take k) x)) (by simp [Act.eval]) (own_drew ((HROW.out.alloc _).alloc _)) ⟨wr.heap.size + 1, 0, none⟩ 1 1 (⟨(x : Int), d, st⟩ : Edge).cs.toList (by simp [Act.eval]) rfl (World.news_of_block (newB wr _ _)) (by simp [Value.oneCell']) Nat.one_pos (by unfold maxLen; omega) (by omega) (by simp; omega) _ rfl ?_
      intro g7 cap7 w7 ho7 hg7 hat7 hlt7
      have hrb : ∀ q, (Value.slice adv (leaving (n.edges.take k) x).length cpv).ownBlock = some q → B7 + 1 ≤ q ∧ q < wr.heap.size := fun q hq => own_lt HROW.out hq
      have HG7 := hid hg7
      have HAT7 := hid hat7
      have HO7 := hid ho7
      have hk7 : ∀ q, q < wr.heap.size + 1 → (Value.slice adv (leaving (n.edges.take k) x).length cpv).ownBlock ≠ some q → w7.heap[q]? = (wr.alloc (.cells (⟨(x : Int), d, st⟩ : Edge).cs 67)).heap[q]? := fun q hq hn => (HG7.out.block q (by simp; omega) (fun e => hn e.symm)).trans (alloc_old (by simp; omega))
      have S7 := hid (show (fun W : World => W.heap[B7]? = some (.cells #[.slice (some ⟨gf, 0, none⟩) m m] 62 (0, 0)) ∧ W.heap[wr.heap.size]? = some (.cells (⟨(x : Int), d, st⟩ : Edge).cs 67 (0, 0)) ∧ W.cell? ⟨gf, x, none⟩ = some (.slice adv (leaving (n.edges.take k) x).length cpv)) w7 from ⟨(hk7 B7 (by omega) (fun e => by have := hrb _ e; omega)).trans S0.out.1, (hk7 _ (by omega) (fun e => by have := hrb _ e; omega)).trans S0.out.2.1, (cell_heap (hk7 gf (by omega) (fun e => by have := hrb _ e; omega))).trans S0.out.2.2⟩)
      have F7 := hid (show w7.frozen? ⟨gf, x, none⟩ = false from by
        obtain ⟨cur, hc⟩ := own_tag HFR.out.arr (g := gf) rfl
        exact free_box ((hk7 gf (by omega) (fun e => by have := hrb _ e; omega)).trans ((alloc_old hgfl).trans hc)))
      clear ho7 hg7 hat7 hk7
      refine hK.out _ _ (fun _ => S7.out) ?_
      clear hK K
      simp only [Act.put, List.getElem_toArray, List.getElem_cons_zero, List.getElem_cons_succ, List.setIfInBounds_toArray, List.set_cons_zero, List.set_cons_succ]
      refine Till.takePure (i := 11) (v := .pointer (some ⟨gf, x, none⟩)) rfl (by kernel_rfl) (fun _ _ _ h => h) (Or.inl ⟨by rfl, fun w _ => by go_simp⟩) (fun _ => S7.out) ?_
      simp only [Act.put, List.getElem_toArray, List.getElem_cons_zero, List.getElem_cons_succ, List.setIfInBounds_toArray, List.set_cons_zero, List.set_cons_succ]
      refine Till.all (rs := [12]) (by kernel_rfl) (by simp) (Each.cons rfl (fun K hK => ?_) Each.nil)
      have k0 := S7.out.2.2
      have f0 := F7.out
      go_simp
      refine hK.out _ _ (fun h => absurd h (by decide)) ?_
      clear hK K
      refine Till.done (by kernel_rfl) ?_ _
      go_wp2
      go_roundw
      case rel =>
        have h1 : Below wr.heap.size wr (((wr.alloc (.cells (⟨(x : Int), d, st⟩ : Edge).cs 67)).alloc (.cells (⟨(x : Int), d, st⟩ : Edge).cs 67)).drew) := (((Below.refl _ _).alloc (Nat.le_refl _) _).alloc (by simp) _).drew
        refine ⟨k + 1, vs.set x (.slice (some ⟨g7, 0, none⟩) ((leaving (n.edges.take k) x).length + 1) cap7), by omega, by go_num, ?_, ?_⟩
        · rw [HTK.out]
          exact HFR.out.grow (e := ⟨(x : Int), d, st⟩) hxm (by rw [List.getElem?_eq_getElem hxv, ← HV.out]) rfl h1 HG7.out (by unfold OwnEdges; rw [List.length_append, flatE_snoc]; exact HO7.out) (HAT7.out.imp (fun h => h.symm) (fun h => congrArg some h))
        · exact Turn.setCell (((HTU.out.alloc _).alloc _ |>.trans (Turn.of_below ((Below.refl _ _).drew))).grown' HG7.out (fun q hq => .inr (by have := hrb q hq; omega))) rfl _
      case measure => simp [intOf]; omega
    -- cut>
    · obtain rfl : k = n.edges.length := by omega
      have HX := hid (HX6.out.turn HTU.out (fun g hg => by omega))
      have q0 := (ncells HX.out.arg).1
      obtain ⟨jb, hjb, hjb0, hjb1, hjb2⟩ := info_parts infoL
      have HJB := hid hjb
      have HZB := hid (And.intro hjb0 (And.intro hjb1 hjb2))
      have hzw := HTU.out.size
      clear hjb hjb0 hjb1 hjb2
      go_upto_region 16 with (at_make; refine wpList_make_full _ rfl _ _ 28 rfl wr.heap.size 4 jb (.bool false) 1 Tryd.underlying28 HJB.out HZB.out.1 HZB.out.2.1 .i64 .i64 _ _ m rfl rfl HM.out HM.out (by rw [HZB.out.2.2]; omega) (by unfold maxLen; omega) (Nat.le_refl _) ?_; intro w8 hown8 hgrow8)
      rw [made_rep (.bool false) m rfl] at hown8
      have hb8 : Below wr.heap.size wr w8 := (Below.refl _ _).grown hgrow8 (Nat.le_refl _) (fun q hq => by cases hq)
      have HX8 := hid (HX.out.below' hb8)
      have HFR8 := hid (HFR.out.later hb8)
      have HTU8 := hid (HTU.out.trans (Turn.of_below hb8))
      have HE8 := hid hown8
      have HB8 := hid hb8
      have hel8 := (own_lt hown8 rfl).2
      obtain ⟨Eb, hEb⟩ : ∃ Eb, Eb = wr.heap.size := ⟨_, rfl⟩
      have hEb7 : B7 + 1 ≤ Eb := by omega
      rw [← hEb] at hel8
      have HEB := hid hEb
      clear hown8 hgrow8 hb8 q0 hEb
      have q2 := (ncells HX8.out.arg).2.2.1
      go_wp2_with fail
      have hnl : n.ends.length ≤ 9223372036854775807 := hmb
      obtain ⟨wo, rfl⟩ : ∃ wo : World, wo = wr := ⟨_, rfl⟩
      go_loopw [83] (fun i wq => ∃ k : Nat, k ≤ n.ends.length ∧ i = .int .i64 k ∧ wq.ownsRow wo.heap.size 4 1 (.slice (some ⟨wo.heap.size, 0, none⟩) m m) m (marks m (n.ends.take k)) ∧ Turn (fun g => g = wo.heap.size) w8 wq) (fun i _ => n.ends.length - (intOf i).toNat)
      case atStart => exact ⟨0, Nat.zero_le _, rfl, by rw [List.take_zero, marks_nil]; exact HE8.out, Turn.refl _ _⟩
      case round =>
        obtain ⟨k, hk, rfl, hown, htu⟩ := hrel
        have HTU2 := hid htu
        have HE := hid hown
        have hwo8 := (own_lt HE8.out rfl).2
        clear htu hown
        by_cases hlt : k < n.ends.length
        -- <cut
        · have HX := hid (HX8.out.turn HTU2.out (fun g hg => by have := HX6.out.size; omega))
          obtain ⟨g, off, rfl, hFg, hx⟩ := ints_at (IntsIn.frame HN.out.ends (F' := F) (w' := wr) (fun _ h => h) (fun g hg _ => HX.out.below.block g (HF.out g hg))) hlt
          have HTK := hid (take_succ' n.ends k hlt)
          have hrx := rise_lt _ _ HL.out.2.2.2.2.1 n.ends[k] (List.getElem_mem hlt)
          obtain ⟨z, hz⟩ : ∃ z, z = n.ends[k] := ⟨_, rfl⟩
          rw [← hz] at hx HTK hrx
          rw [HM.out] at hrx
          obtain ⟨x, rfl⟩ := Int.eq_ofNat_of_zero_le hrx.1
          have hxm : x < m := by omega
          obtain ⟨y, hcy⟩ := own_cell HE.out hxm
          have hfy := own_free (i := x) HE.out
          clear hz
          go_wp2_with fail
          go_roundw
          case rel =>
            refine ⟨k + 1, by omega, by go_num, ?_, HTU2.out.setCell rfl _⟩
            rw [HTK.out, ← marks_set]
            exact own_store _ HE.out
          case measure => simp [intOf]; omega
        -- cut>
        · obtain rfl : k = n.ends.length := by omega
          have HX9 := hid (HX8.out.turn HTU2.out (fun g hg => by have := HX6.out.size; omega))
          have HE9 := hid (show wr.ownsRow wo.heap.size 4 1 (.slice (some ⟨wo.heap.size, 0, none⟩) m m) m (marks m n.ends) by have := HE.out; rwa [List.take_length] at this)
          have hz8 := HTU8.out.size
          have hr0 := HFR.out.reads (by omega) (by unfold maxLen; omega) (by rw [List.length_take]; unfold maxLen; omega)
          rw [List.take_length] at hr0
          have HFI := hid (show FromIn (fun g => gf ≤ g ∧ g < wo.heap.size) wr (.slice (some ⟨gf, 0, none⟩) m m) (froms m n.edges) from FromIn.frame hr0 (fun _ h => h) (fun g hg hl => (HTU2.out.block g (Nat.lt_of_lt_of_le hl HB8.out.size) (Nat.ne_of_lt hl)).trans ((HB8.out).block g hl)))
          have HCS9 := hid (own_blk HCS6.out (w' := wr) fun g hg => by
            have h1 := own_lt HCS6.out hg
            cases hg
            exact (HTU2.out.block C (by omega) (by omega)).trans (HTU8.out.block C h1.2 (by omega)))
          have HG9 := hid (SetsIn.frame HG6.out (F' := fun g => w.heap.size + 3 ≤ g ∧ g < C) (w' := wr) (fun _ h => h) (fun g hg _ => (HTU2.out.block g (by omega) (by omega)).trans (HTU8.out.block g (by omega) (by omega))))
          have HBB9 := hid (((HTU2.out.block B7 (by omega) (by omega)).trans (HTU8.out.block B7 (by omega) (by omega))).trans HB7.out)
          clear hr0
          have hz9 := HTU2.out.size
          have hnew := new_any wr
          go_wp2_with fail
          refine hnew.mono ?_
          rintro e wt ⟨rfl, htab, hbt⟩
          have HX10 := hid (HX9.out.below' hbt)
          have htl := (htab.lt (wr.heap.size + 1) htab.fT).2
          have HT10 := hid (htab.alloc (.cells #[.pointer (some ⟨wr.heap.size + 1, 0, none⟩)] 68))
          have HB10 := hid (show Below wr.heap.size wr (wt.alloc (.cells #[.pointer (some ⟨wr.heap.size + 1, 0, none⟩)] 68)) from hbt.alloc hbt.size _)
          have HBT := hid (heap_alloc_new wt (.cells #[.pointer (some ⟨wr.heap.size + 1, 0, none⟩)] 68))
          go_upto_region 22 with fail
          obtain ⟨M, hM⟩ : ∃ M, M = wr.heap.size := ⟨_, rfl⟩
          rw [← hM] at HT10 HB10 HBT ⊢
          have HMQ := hid hM
          obtain ⟨W, hW⟩ : ∃ W, W = wt.alloc (.cells #[.pointer (some ⟨M + 1, 0, none⟩)] 68) := ⟨_, rfl⟩
          obtain ⟨Bt, hBt⟩ : ∃ Bt, Bt = wt.heap.size := ⟨_, rfl⟩
          have HWS := hid (show W.heap.size = Bt + 1 by rw [hW, hBt, World.size_alloc])
          rw [← hW, ← hBt] at HBT
          rw [← hW] at HT10 HB10
          simp only [← hW, ← hBt]
          have hMB : M + 1 < Bt := by rw [hBt]; omega
          clear hW hBt htab hbt htl hnew hM
          have HXW := hid (HX9.out.below' (by rw [← HMQ.out]; exact HB10.out))
          have hsl := rise_lt _ _ HL.out.2.2.2.1
          rw [HM.out] at hsl
          have hsr : ∀ x ∈ n.starts, inR x := fun x hx => by have := hsl x hx; unfold inR; omega
          have hstl : n.starts.length ≤ 1000000 := by have := start_len _ _ HL.out.2.2.2.1; rw [HM.out] at this; omega
          have hput := put_any (IntsIn.frame HN.out.starts (F' := F) (w' := W) (fun _ h => h) (fun g hg _ => HXW.out.below.block g (HF.out g hg))) hstl hsr (by rw [HWS.out]; omega) HT10.out
          rw [put_first] at hput
          have q1 := (ncells HXW.out.arg).2.1
          have d0 := cell_blk (i := 0) HBT.out rfl
          go_upto_region 23 with (go_at_call 42; refine hput.mono ?_; rintro e wp ⟨bb, rv, Fp, rfl, htab, hfp, hrvb, htu⟩)
          clear hput q1 d0
          obtain ⟨Bd, hBd⟩ : ∃ Bd, Bd = wp.heap.size := ⟨_, rfl⟩
          have hW1 : W.heap.size = Bt + 1 := HWS.out
          have hzM := HMQ.out
          have hwr9 : w8.heap.size ≤ wr.heap.size := HTU2.out.size
          have hfp' : ∀ g, Fp g → g = M ∨ g = M + 1 ∨ (Bt < g ∧ g ≠ Bd) := fun g hg => by
            have h1 := (htab.lt g hg).2
            rcases hfp g hg with h | h
            · rcases h with h | h
              · exact .inl h
              · exact .inr (.inl h)
            · exact .inr (.inr ⟨by omega, by omega⟩)
          have hbpz := htu.size
          have heb := HEB.out
          rw [← heb] at HE9 HFI hwo8 ⊢
          have hEM : Eb < M := by omega
          have hBtd : Bt < Bd := by omega
          have heo : ∀ e ∈ n.edges, 0 ≤ e.dst ∧ e.dst < (m : Int) := fun e he => by
            have := HL.out.2.2.2.2.2 e he
            unfold edgeOk stateOk at this
            simp only [Bool.and_eq_true, decide_eq_true_eq] at this
            rw [HM.out] at this
            exact this.1.2
          have hC3' : w.heap.size + 3 ≤ C := hC3
          have hb7e : B7 < Eb := by omega
          have HTUP := hid htu
          have HTAB := hid htab
          have HFP := hid hfp'
          have hBd' := hBd
          clear hfp htu htab hfp' hrvb hsl hsr hstl
          obtain ⟨q, e1, e2, e3, e4, e5, e6, e7, e8, e9, e10, e11, e12, e13, e14, e15, e16, e17, e18, e19, e20⟩ : ∃ q : Par, w = q.w ∧ n = q.n ∧ p = q.p ∧ cl = q.cl ∧ adp = q.adp ∧ cpp = q.cpp ∧ ada = q.ada ∧ cpa = q.cpa ∧ adb = q.adb ∧ cpb = q.cpb ∧ adc = q.adc ∧ cpc = q.cpc ∧ C = q.C ∧ gf = q.gf ∧ B7 = q.B7 ∧ Eb = q.Eb ∧ M = q.M ∧ Bt = q.Bt ∧ Bd = q.Bd ∧ m = q.m :=
            ⟨⟨w, n, p, cl, adp, cpp, ada, cpa, adb, cpb, adc, cpc, C, gf, B7, Eb, M, Bt, Bd, m⟩, rfl, rfl, rfl, rfl, rfl, rfl, rfl, rfl, rfl, rfl, rfl, rfl, rfl, rfl, rfl, rfl, rfl, rfl, rfl, rfl⟩
          subst e1 e2 e3 e4 e5 e6 e7 e8 e9 e10 e11 e12 e13 e14 e15 e16 e17 e18 e19 e20
          have HQ := hid (show q.Ok from ⟨hC3', hC4, hgf, hb7e, hEM, hMB, hBtd, hm4, hel, heo, HPL.out, HPO.out, HT.out⟩)
          have HF0 := hid (show Fixed q W from ⟨HXW.out, own_blk HCS9.out (fun g hg => by have := own_lt HCS9.out hg; exact HB10.out.block g (by omega)), SetsIn.frame HG9.out (fun _ h => h) (fun g hg _ => HB10.out.block g (by have := hg.2; omega)), (HB10.out.block _ (by omega)).trans HBB9.out, FromIn.frame HFI.out (fun _ h => h) (fun g hg _ => HB10.out.block g (by have := hg.2; omega)), own_blk HE9.out (fun g hg => by have := own_lt HE9.out hg; exact HB10.out.block g (by omega)), HBT.out⟩)
          have HF1 := hid (HF0.out.turn HQ.out HTUP.out (fun g hg => by
            rcases hg with rfl | rfl | hg
            · exact .inr (.inl rfl)
            · exact .inl rfl
            · cases hg))
          go_wp2_with fail
          rw [← hBd]
          have HB0 := hid (show Base q (wp.alloc (.cells #[.slice (some ⟨q.C, 0, none⟩) 256 256, .slice none 0 0, .slice none 0 0] 30)) [] [sortU q.n.starts] [] [] rv (.slice none 0 0) (.slice none 0 0) Fp from
            ⟨HF1.out.turn HQ.out (S := fun _ => False) ((Turn.refl _ _).alloc _) (fun _ h => h.elim), by rw [hBd]; exact heap_alloc_new _ _, HTAB.out.alloc _, HFP.out, ⟨⟨[], World.ownsRow_nil _ _ _ _, rfl, fun i v l h => by simp at h⟩, (fun g hg => by cases hg)⟩, World.ownsRow_nil _ _ _ _, (fun g hg => by cases hg), List.nodup_nil, (fun D hD => by cases hD), fun r hr => by
              rw [List.mem_singleton.1 hr]
              exact RowOk.sort (by have := rise_lt _ _ HL.out.2.2.2.1; rwa [HM.out] at this)⟩)
          have HN0 := hid (show Num q 0 [sortU q.n.starts] [] [] from ⟨by simp, rfl, rfl, by simp, (fun l hl => by cases hl), rfl⟩)
          clear heo hC3' hb7e hEM hBtd hMB hzM hW1 heb HXW HX9 HCS9 HG9 HBB9 HFI HE9 HBT HF0 HF1 HTUP HTAB HFP HTU HTU2 HTU8 HFR HFR8 HX HX6 HX8 HG6 HCS6 HA6 HB7 HB8 HE8 HE HT10 HB10 HIE HZE HIG HZG HJB HZB
          refine wp_loop (AtLoop q) (fun a _ => 1024 - (intOf (a.tmps.getD 18 undef)).toNat) ?_ ?_
          · exact AtLoop.mk (by rfl) rfl ⟨_, _, _, _, _, _, _, HB0.out, HN0.out⟩
          · clear HB0 HN0 hBd hBd'
            rintro a W ⟨u, s, Ds, rfl, rows, next, fin, rv, nv, ev, Fp, hb, hnum⟩
            have HB := hid hb
            have HN := hid hnum
            clear hb hnum
            dsimp only [frm]
            generalize hds : Ds.map markD = ds
            have HDS := hid hds
            clear hds
            have hm := HN.out.most
            have d0 := cell_blk (i := 0) HB.out.fixed.bt rfl
            have hsz := size_any HB.out.tab
            by_cases hs : s < rows.length
            · have hrw := row_any HB.out.tab hs
              have hs' : (s : Int) < (rows.length : Int) := by omega
              go_wp2_with (first | (go_at_call 43; refine hsz.mono ?_; clear hsz; rintro e W ⟨rfl, rfl⟩) | (go_at_call 44; refine hrw.mono ?_; clear hrw; rintro e w1 ⟨v1, rfl, ho1, hb1⟩; obtain ⟨adr, cpr, rfl⟩ := own_shape ho1; have HO1 := hid ho1; have HB1 := hid hb1; clear ho1 hb1))
              have hrl : rows[s].length ≤ 4096 := Nat.le_trans (HB.out.ok _ (List.getElem_mem hs)).len HQ.out.m4
              have HRO0 := hid (HB.out.ok _ (List.getElem_mem hs))
              obtain ⟨row, hrow⟩ : ∃ row, row = rows[s] := ⟨_, rfl⟩
              rw [← hrow] at HO1 HRO0 hrl ⊢
              have HROW := hid hrow
              obtain ⟨B19, hB19⟩ : ∃ B, B = w1.heap.size := ⟨_, rfl⟩
              obtain ⟨W2, hW2⟩ : ∃ W2, W2 = w1.alloc (.cells #[.slice adr row.length cpr] 22) := ⟨_, rfl⟩
              have HS2 := hid (show W2.heap.size = B19 + 1 by rw [hW2, hB19, World.size_alloc])
              have HB2 := hid (show Below W.heap.size W W2 from hW2 ▸ HB1.out.alloc HB1.out.size _)
              have HBS2 := hid (HB.out.below HQ.out HB2.out)
              have HR2 := hid (show IntsIn (fun g => W.heap.size ≤ g ∧ g < B19) W2 (.slice adr row.length cpr) row from IntsIn.frame (ints_of_own HO1.out (by unfold maxLen; omega)) (fun g hg => ⟨hg.1, by rw [hB19]; exact hg.2⟩) (fun g _ hg => by rw [hW2]; exact alloc_old hg))
              have H19 := hid (show W2.heap[B19]? = some (.cells #[.slice adr row.length cpr] 22 (0, 0)) by rw [hW2, hB19]; exact heap_alloc_new _ _)
              have hW19 : W.heap.size ≤ B19 := by rw [hB19]; exact HB1.out.size
              rw [← hW2, ← hB19]
              clear hW2 hB19 HO1 HB1 hrow hs' d0
              have hrl' : row.length ≤ 4096 := hrl
              go_loopw [21, 124] (fun fl i wr => ∃ k : Nat, k ≤ row.length ∧ i = .int .i64 k ∧ fl = .bool ((row.take k).any fun x => decide (x ∈ q.n.ends)) ∧ W2 = wr) (fun _ i _ => row.length - (intOf i).toNat)
              case atStart => exact ⟨0, Nat.zero_le _, rfl, rfl, rfl⟩
              case round =>
                obtain ⟨k, hk, rfl, hfl, hw⟩ := hrel
                subst hw
                by_cases hlt : k < row.length
                -- <cut
                · have hanys : ((row.take (k + 1)).any fun x => decide (x ∈ q.n.ends)) = (((row.take k).any fun x => decide (x ∈ q.n.ends)) || decide (row[k] ∈ q.n.ends)) := by rw [take_succ' _ _ hlt, List.any_append]; simp
                  have HAN := hid hanys
                  clear hanys
                  obtain ⟨g, off, rfl, hFg, hx⟩ := ints_at HR2.out hlt
                  have hrx := HRO0.out.lt row[k] (List.getElem_mem hlt)
                  obtain ⟨z, hz⟩ : ∃ z, z = row[k] := ⟨_, rfl⟩
                  rw [← hz] at hx hrx HAN
                  obtain ⟨x, rfl⟩ := Int.eq_ofNat_of_zero_le hrx.1
                  have hxm : x < q.m := by omega
                  have hcx : W2.cell? ⟨q.Eb, x, none⟩ = some (.bool (decide ((x : Int) ∈ q.n.ends))) := by rw [HBS2.out.fixed.ends.cellAt x (by omega)]; exact marks_get hxm _
                  have hxm' : (x : Int) < (q.m : Int) := by omega
                  generalize ((row.take k).any fun x => decide (x ∈ q.n.ends)) = fb at *
                  generalize decide ((x : Int) ∈ q.n.ends) = xb at *
                  clear hz hrx
                  cases fb
                  · subst hfl
                    go_wp2_with fail
                    go_roundw
                    case rel => exact ⟨k + 1, by omega, by go_num, by rw [HAN.out]; rfl, trivial⟩
                    case measure => simp [intOf]; omega
                  · subst hfl
                    go_wp2_with fail
                    go_roundw
                    case rel => exact ⟨k + 1, by omega, by go_num, by rw [HAN.out]; rfl, trivial⟩
                    case measure => simp [intOf]; omega
                -- cut>
                · obtain rfl : k = row.length := by omega
                  rw [List.take_length] at hfl
                  generalize hfb : (row.any fun x => decide (x ∈ q.n.ends)) = fb at *
                  subst hfl
                  have HFB := hid hfb
                  clear hfb
                  have hpl' : q.p.length ≤ 256 := HPL.out
                  obtain ⟨iI, hiI, hiI0, hiI1, hiI2⟩ := info_parts infoI
                  have HII := hid hiI
                  have HZI := hid (And.intro hiI0 (And.intro hiI1 hiI2))
                  have hcl := fun (w : World) => classes_any (.slice q.adp q.p.length q.cpp) ⟨_, _, _, rfl⟩ w
                  have HCLS := hid hcl
                  clear hcl hiI hiI0 hiI1 hiI2
                  go_wp2_with (first | (at_make; refine wpList_make_full _ rfl _ _ 22 rfl W2.heap.size 3 iI (.int .i64 0) 1 Tryd.underlying22 HII.out HZI.out.1 HZI.out.2.1 .i64 .i64 _ _ q.p.length rfl rfl rfl rfl (by rw [HZI.out.2.2]; omega) (by unfold maxLen; omega) (Nat.le_refl _) ?_; intro w3 hown3 hgrow3; have HO3 := hid hown3; have HG3 := hid hgrow3; clear hown3 hgrow3) | (go_at_call 45; refine (HCLS.out _).mono ?_; rintro e w4 ⟨rfl, rfl⟩))
                  rw [made_rep (.int .i64 0) q.p.length rfl] at HO3
                  obtain ⟨WR, hWR⟩ : ∃ WR, WR = (w3.alloc (.cells #[.slice (some ⟨W2.heap.size, 0, none⟩) q.p.length q.p.length] 22)).alloc (.cells #[.slice q.adp q.p.length q.cpp] 56) := ⟨_, rfl⟩
                  obtain ⟨B24, hB24⟩ : ∃ B, B = w3.heap.size := ⟨_, rfl⟩
                  have hb3 : Below W2.heap.size W2 w3 := (Below.refl _ _).grown HG3.out (Nat.le_refl _) (fun q hq => by cases hq)
                  have hz3 : W2.heap.size < w3.heap.size := (own_lt HO3.out rfl).2
                  have hB24z : W2.heap.size < B24 := by rw [hB24]; exact hz3
                  have HRS := hid (show WR.heap.size = B24 + 2 by rw [hWR, hB24]; simp)
                  have HBR := hid (show Below W2.heap.size W2 WR from hWR ▸ (hb3.alloc hb3.size _).alloc (by simp; omega) _)
                  have HOR := hid (show WR.ownsRow q.Bd 3 1 (.slice (some ⟨W2.heap.size, 0, none⟩) q.p.length q.p.length) q.p.length ((List.replicate q.p.length (0 : Int)).map iV) by
                    rw [List.map_replicate, hWR]
                    exact own_mono ((HO3.out.alloc _).alloc _) (by have := lt_of_heap HBS2.out.dbox; omega))
                  have H24 := hid (show WR.heap[B24]? = some (.cells #[.slice (some ⟨W2.heap.size, 0, none⟩) q.p.length q.p.length] 22 (0, 0)) by rw [hWR, hB24]; exact (alloc_old (by simp)).trans (heap_alloc_new _ _))
                  have HBs := hid (show WR.cell? ⟨B24 + 1, 0, none⟩ = some (.slice q.adp q.p.length q.cpp) by
                    rw [hWR, hB24]
                    have := heap_alloc_new (w3.alloc (.cells #[.slice (some ⟨W2.heap.size, 0, none⟩) q.p.length q.p.length] 22)) (.cells #[.slice q.adp q.p.length q.cpp] 56)
                    rw [World.size_alloc] at this
                    exact cell_blk this rfl)
                  have H19R := hid ((HBR.out.block B19 (by rw [HS2.out]; omega)).trans H19.out)
                  have HR2R := hid (IntsIn.frame HR2.out (F' := fun g => W.heap.size ≤ g ∧ g < B19) (w' := WR) (fun _ h => h) (fun g hg hl => HBR.out.block g hl))
                  have HFR := hid (HBS2.out.fixed.turn HQ.out (S := fun _ => False) (Turn.of_below HBR.out) (fun _ h => h.elim))
                  have HSR := hid HFR.out.sets
                  have hN0 : W2.heap.size < WR.heap.size := by rw [HRS.out, hB24]; omega
                  have hqb := lt_of_heap HBS2.out.dbox
                  have HTR := hid (HBS2.out.tab.below HBR.out)
                  have hCR : q.C < WR.heap.size := by
                    have := HQ.out.gf
                    have := HQ.out.b7
                    have := HQ.out.eb
                    have := HQ.out.m
                    have := HQ.out.bt
                    have := HQ.out.bd
                    omega
                  simp only [← hB24]
                  rw [← hWR]
                  clear hWR hB24 HO3 HG3 hb3 hz3
                  refine (wpIn_wide (n := 5)).1 (wpIn_rangeFunc_ownH (F := Fence.wide) (n := 5) rfl (by decide) (gf := 79) (lb := #[.pointer (some ⟨B24 + 1, 0, none⟩)]) rfl trivial (enters_of Tryd.func79 (by kernel_rfl) rfl)
                    (classes_stops (n := 4) (by decide) HBs.out HSR.out (fun g hg => Nat.lt_trans hg.2 hCR)) (fun h1 h2 g hg => (h2 g hg).trans (h1 g hg)) (fun W l o o' hl _ _ _ g hg => World.putObj_heap_other (by have := hg.2; omega)) (Below.refl _ _) (fun _ => rfl)
                    (Mid q WR row rows rv Fp W2.heap.size) (Bad q WR row rows rv W2.heap.size) (Mid.own (by have := (HTR.out.lt _ HTR.out.fM).2; exact this)) (fun _ => Bad.own)
                    ⟨Turn.refl _ _, rows, _, rv, Fp, rfl, HTR.out, fun g hg => .inl hg, .inl rfl, HOR.out, HBS2.out.ok⟩
                    (fun x a' W => ∃ Bx u', WR.heap.size ≤ Bx ∧ W.heap[Bx]? = some (.cells (q.p[x.1]'x.2).cs 65 (0, 0)) ∧ a' = { tmps := frmB q u' B19 B24 Bx (x.1 : Int), defers := [] })
                    (fun x a' _ X Y r hs hg hr => by
                      obtain ⟨Bx, u', e1, e2, e3⟩ := hs
                      exact ⟨Bx, u', e1, (hg.block _ (lt_of_heap e2) (fun e => by
                        obtain ⟨_, o, h2, h3⟩ := hr _ e.symm
                        rw [e2] at h2; cases h2; cases h3)).trans e2, e3⟩)
                    ?assign ?body ?done ?stop)
                  case assign =>
                    rintro l pre x W K hI hK
                    have hzW := hI.turn.size
                    gi_wp2
                    refine hK _ _ ((KeepsOthers.alloc _ _).from _) (fun g hg => alloc_old (by have := hg.2; omega)) (Mid.own (by have := (HTR.out.lt _ HTR.out.fM).2; exact this) _ _ _ none hI (World.grownBy_alloc _ _ _) (fun r e => by cases e)) ?_
                    exact ax_mk hzW (heap_alloc_new _ _) rfl
                  case body =>
                    -- <cutb
                    rintro l pre x a' W3 hl ⟨r, hr⟩ hmid ⟨Bx, u', hBx, hbx, rfl⟩ hlt
                    obtain ⟨rows1, nx, rv1, Fp1, e1, e2, e3, e4, e5, e6⟩ := hmid.ex
                    have hz30 := hmid.turn.size
                    have hnS : ∀ g, q.Bt ≤ g → g ≠ W2.heap.size → ¬ Fp g → ¬ S0 q rv W2.heap.size g := fun g hg hn hf hs => by
                      have := HQ.out.bt
                      rcases hs with (h | h | h) | h
                      · omega
                      · omega
                      · exact hf (HTR.out.fR g h)
                      · exact hn h
                    have hFW : ∀ g, Fp g → g < W.heap.size := fun g hg => (HB.out.tab.lt g hg).2
                    have hS0 : ∀ g, S0 q rv W2.heap.size g → g = q.M ∨ g = q.M + 1 ∨ q.Bt < g := fun g hs => by
                      rcases hs with (h | h | h) | h
                      · exact .inr (.inl h)
                      · exact .inl h
                      · have := HBS2.out.fp g (HTR.out.fR g h); omega
                      · have := HQ.out.bd; omega
                    have HF3 := hid (HFR.out.turn HQ.out hmid.turn hS0)
                    have h19 : W3.heap[B19]? = some (.cells #[.slice adr row.length cpr] 22 (0, 0)) := (hmid.turn.block B19 (by have := HS2.out; omega) (hnS B19 (by have := HQ.out.bd; have := lt_of_heap HB.out.dbox; omega) (by have := HS2.out; omega) (fun hf => by have := hFW _ hf; omega))).trans H19R.out
                    have h24 : W3.heap[B24]? = some (.cells #[.slice (some ⟨W2.heap.size, 0, none⟩) q.p.length q.p.length] 22 (0, 0)) := (hmid.turn.block B24 (by have := HRS.out; omega) (hnS B24 (by have := HQ.out.bd; omega) (by omega) (fun hf => by have := hFW _ hf; have := HS2.out; omega))).trans H24.out
                    have HR3 := hid (IntsIn.frame HR2R.out (F' := fun g => g < W3.heap.size) (w' := W3) (fun g hg => by have := hg.2; have := HS2.out; omega) (fun g hg hgl => hmid.turn.block g hgl (hnS g (by have := hg.1; have := HQ.out.bd; have := lt_of_heap HB.out.dbox; omega) (by have := hg.2; have := HS2.out; omega) (fun hf => by have := hFW _ hf; have := hg.1; omega))))
                    have hpx : (q.p[x.1]'x.2).ok := HQ.out.po _ (List.getElem_mem x.2)
                    have hbe := behind_any (F := fun g => g < W3.heap.size) (w := W3.drew) (FromIn.frame HF3.out.fr (fun g hg => by have := hg.2; have := HQ.out.m; have := HQ.out.bt; have := HQ.out.bd; omega) (fun _ _ _ => rfl)) (IntsIn.frame HR3.out (fun _ h => h) (fun _ _ _ => rfl)) (fun g h => h) hpx (HF3.out.tab HQ.out) (fun y hy => by rw [froms_len]; exact HRO0.out.lt y hy) (fun es hes => by
                      unfold froms at hes
                      obtain ⟨j, _, rfl⟩ := List.mem_map.1 hes
                      exact Nat.le_trans (leaving_len _ _) HQ.out.el) (by omega)
                    rw [outsAll_froms HRO0.out.lt] at hbe
                    have hbl := behind_len (q.p[x.1]'x.2) row q.n.edges HRO0.out.up
                    have hbr := behind_lt (row := row) (s := q.p[x.1]'x.2) HQ.out.eo
                    have HBE := hid hbe
                    obtain ⟨lb, hlb⟩ : ∃ lb, lb = behindM q.n.edges row (q.p[x.1]'x.2) := ⟨_, rfl⟩
                    have hLB := hid hlb
                    rw [← hlb] at hbe hbl hbr
                    have hpu := fun (w4 : World) (v4 : Value) (hb : Below W3.heap.size W3 w4) (ho : OwnInts w4 W3.heap.size v4 lb) => put_any (ints_of_own ho (by have := HQ.out.el; unfold maxLen; omega)) (by have := HQ.out.el; omega) (fun y hy => by have := hbr y hy; have := HQ.out.m4; unfold inR; omega) (by have := (e2.lt _ e2.fM).2; have := hb.size; omega) (e2.below hb)
                    have HPU := hid hpu
                    have HE2 := hid e2
                    have HMT := hid hmid.turn
                    have HE3 := hid e3
                    have HE4 := hid e4
                    have HE5 := hid e5
                    have HE6 := hid e6
                    have HE1 := hid e1
                    have HS := hid (show (fun W : World => W.heap[q.Bt]? = some (.cells #[.pointer (some ⟨q.M + 1, 0, none⟩)] 68 (0, 0)) ∧ W.heap[q.B7]? = some (.cells #[.slice (some ⟨q.gf, 0, none⟩) q.m q.m] 62 (0, 0)) ∧ W.heap[B19]? = some (.cells #[.slice adr row.length cpr] 22 (0, 0)) ∧ W.heap[Bx]? = some (.cells (q.p[x.1]'x.2).cs 65 (0, 0))) W3.drew from ⟨HF3.out.bt, HF3.out.fb, h19, hbx⟩)
                    have H243 := hid h24
                    clear hbe hlb hpu e1 e2 e3 e4 e5 e6 hmid hbl hbr hpx h19 h24 hr hbx
                    generalize hpe : q.p[x.1]'x.2 = se at *
                    dsimp only [frmB]
                    gi_wp2_with fail
                    have HSK := hid (fun (A A' : World) (hh : ∀ g, g = q.Bt ∨ g = q.B7 ∨ g = B19 ∨ g = Bx → A'.heap[g]? = A.heap[g]?) (hS : (fun W : World => W.heap[q.Bt]? = some (.cells #[.pointer (some ⟨q.M + 1, 0, none⟩)] 68 (0, 0)) ∧ W.heap[q.B7]? = some (.cells #[.slice (some ⟨q.gf, 0, none⟩) q.m q.m] 62 (0, 0)) ∧ W.heap[B19]? = some (.cells #[.slice adr row.length cpr] 22 (0, 0)) ∧ W.heap[Bx]? = some (.cells se.cs 65 (0, 0))) A) => (show (fun W : World => W.heap[q.Bt]? = some (.cells #[.pointer (some ⟨q.M + 1, 0, none⟩)] 68 (0, 0)) ∧ W.heap[q.B7]? = some (.cells #[.slice (some ⟨q.gf, 0, none⟩) q.m q.m] 62 (0, 0)) ∧ W.heap[B19]? = some (.cells #[.slice adr row.length cpr] 22 (0, 0)) ∧ W.heap[Bx]? = some (.cells se.cs 65 (0, 0))) A' from ⟨(hh _ (.inl rfl)).trans hS.1, (hh _ (.inr (.inl rfl))).trans hS.2.1, (hh _ (.inr (.inr (.inl rfl)))).trans hS.2.2.1, (hh _ (.inr (.inr (.inr rfl)))).trans hS.2.2.2⟩))
                    refine region_round (k := 10) (S := (fun W : World => W.heap[q.Bt]? = some (.cells #[.pointer (some ⟨q.M + 1, 0, none⟩)] 68 (0, 0)) ∧ W.heap[q.B7]? = some (.cells #[.slice (some ⟨q.gf, 0, none⟩) q.m q.m] 62 (0, 0)) ∧ W.heap[B19]? = some (.cells #[.slice adr row.length cpr] 22 (0, 0)) ∧ W.heap[Bx]? = some (.cells se.cs 65 (0, 0)))) (by kernel_rfl) (by kernel_rfl) (fun ⟨_, _, h⟩ => h) ?_
                    refine Till.take (i := 0) (v := .pointer (some ⟨q.M + 1, 0, none⟩)) rfl (by kernel_rfl) (fun _ _ _ h => h) (Or.inl ⟨by rfl, fun w hS => by have k0 := cell_blk (i := 0) hS.1 rfl; go_simp⟩) HS.out ?_
                    simp only [Act.put, List.getElem_toArray, List.getElem_cons_zero, List.setIfInBounds_toArray, List.set_cons_zero, List.set_cons_succ]
                    refine Till.take (i := 1) (v := .slice (some ⟨q.gf, 0, none⟩) q.m q.m) rfl (by kernel_rfl) (fun _ _ _ h => h) (Or.inl ⟨by rfl, fun w hS => by have k0 := cell_blk (i := 0) hS.2.1 rfl; go_simp⟩) HS.out ?_
                    simp only [Act.put, List.getElem_toArray, List.getElem_cons_zero, List.getElem_cons_succ, List.setIfInBounds_toArray, List.set_cons_zero, List.set_cons_succ]
                    refine Till.take (i := 2) (v := .slice adr row.length cpr) rfl (by kernel_rfl) (fun _ _ _ h => h) (Or.inl ⟨by rfl, fun w hS => by have k0 := cell_blk (i := 0) hS.2.2.1 rfl; go_simp⟩) HS.out ?_
                    simp only [Act.put, List.getElem_toArray, List.getElem_cons_zero, List.getElem_cons_succ, List.setIfInBounds_toArray, List.set_cons_zero, List.set_cons_succ]
                    refine Till.take (i := 3) (v := .agg se.cs) rfl (by kernel_rfl) (fun _ _ _ h => h) (Or.inl ⟨by rfl, fun w hS => by have k0 := cell_blk (i := 0) hS.2.2.2 rfl; have k1 := cell_blk (i := 1) hS.2.2.2 rfl; have k2 := cell_blk (i := 2) hS.2.2.2 rfl; have k3 := cell_blk (i := 3) hS.2.2.2 rfl; go_simp⟩) HS.out ?_
                    simp only [Act.put, List.getElem_toArray, List.getElem_cons_zero, List.getElem_cons_succ, List.setIfInBounds_toArray, List.set_cons_zero, List.set_cons_succ]
                    refine Till.all (rs := [4]) (by kernel_rfl) (by simp) (Each.cons rfl (fun K hK => ?_) Each.nil)
                    go_simp
                    refine HBE.out.mono ?_
                    rintro e w4 ⟨v4, rfl, ho4, hb4'⟩
                    have hb4 : Below W3.heap.size W3 w4 := (((Below.refl _ W3).drew).trans hb4')
                    have HB4 := hid hb4
                    have hpu := HPU.out w4 v4 hb4 (by rw [hLB.out]; exact ho4)
                    have hbxl := lt_of_heap HS.out.2.2.2
                    have h19l := lt_of_heap HS.out.2.2.1
                    have hbtl := lt_of_heap HS.out.1
                    have hb7l := lt_of_heap HS.out.2.1
                    have HS4 := hid (HSK.out W3.drew w4 (fun g hg => hb4.block g (by rcases hg with rfl | rfl | rfl | rfl <;> assumption)) HS.out)
                    refine hK.out _ _ (fun _ => HS4.out) ?_
                    clear hK K ho4 hb4' hb4
                    refine Till.all (rs := [5]) (by kernel_rfl) (by simp) (Each.cons rfl (fun K hK => ?_) Each.nil)
                    go_simp
                    refine hpu.mono ?_
                    clear hpu
                    rintro e w5 hpost
                    obtain ⟨kv, bb, ev5, rfl, htu5, hcase⟩ := put_uni hpost (fun er h => putM_err h)
                    have HT5 := hid htu5
                    have HC5 := hid hcase
                    have hT1 : ∀ g, TabS (q.M + 1) q.M rv1 g → Fp1 g := fun g hg => by
                      rcases hg with rfl | rfl | hg
                      · exact HE2.out.fT
                      · exact HE2.out.fM
                      · exact HE2.out.fR g hg
                    have hNT : ∀ g, g < WR.heap.size → ¬ Fp g → ¬ TabS (q.M + 1) q.M rv1 g := fun g h1 h2 h3 => (HE3.out g (hT1 g h3)).elim h2 (fun h => by omega)
                    have hNB : ¬ TabS (q.M + 1) q.M rv1 Bx := fun h => by
                      have := HQ.out.bt
                      have := HQ.out.bd
                      rcases h with h | h | h
                      · omega
                      · omega
                      · obtain ⟨vs, h1, _, _⟩ := HE2.out.own
                        obtain ⟨cur, hc⟩ := own_tag h1 h
                        have h2 : W3.heap[Bx]? = some (.cells se.cs 65 (0, 0)) := HS.out.2.2.2
                        rw [hc] at h2; cases h2
                    have HS5 := hid (HSK.out w4 w5 (fun g hg => htu5.block g (by
                        have := HB4.out.size
                        rcases hg with rfl | rfl | rfl | rfl
                        · exact Nat.lt_of_lt_of_le hbtl this
                        · exact Nat.lt_of_lt_of_le hb7l this
                        · exact Nat.lt_of_lt_of_le h19l this
                        · exact Nat.lt_of_lt_of_le hbxl this) (by
                        have h1 := HQ.out.bd
                        have h2 := HQ.out.bt
                        have h3 := HQ.out.m
                        have h4 := HQ.out.eb
                        have h5 := HS2.out
                        rcases hg with rfl | rfl | rfl | rfl
                        · exact hNT _ (by omega) (fun h => by have := HBS2.out.fp _ h; omega)
                        · exact hNT _ (by omega) (fun h => by have := HBS2.out.fp _ h; omega)
                        · exact hNT _ (by omega) (fun h => by have := hFW _ h; omega)
                        · exact hNB)) HS4.out)
                    have HNT := hid hNT
                    refine hK.out _ _ (fun _ => HS5.out) ?_
                    clear hK K hpost htu5 hcase
                    refine Till.takePure (i := 6) (v := .tuple #[.int .i64 kv, .bool bb, .int .i64 ev5]) rfl (by kernel_rfl) (fun _ _ _ h => h) (Or.inl ⟨by rfl, fun w _ => by go_simp⟩) (fun _ => HS5.out) ?_
                    simp only [Act.put, List.getElem_toArray, List.getElem_cons_zero, List.getElem_cons_succ, List.setIfInBounds_toArray, List.set_cons_zero, List.set_cons_succ]
                    refine Till.takePure (i := 7) (v := .int .i64 kv) rfl (by kernel_rfl) (fun _ _ _ h => h) (Or.inl ⟨by rfl, fun w _ => by go_simp⟩) (fun _ => HS5.out) ?_
                    simp only [Act.put, List.getElem_toArray, List.getElem_cons_zero, List.getElem_cons_succ, List.setIfInBounds_toArray, List.set_cons_zero, List.set_cons_succ]
                    refine Till.takePure (i := 8) (v := .bool bb) rfl (by kernel_rfl) (fun _ _ _ h => h) (Or.inl ⟨by rfl, fun w _ => by go_simp⟩) (fun _ => HS5.out) ?_
                    simp only [Act.put, List.getElem_toArray, List.getElem_cons_zero, List.getElem_cons_succ, List.setIfInBounds_toArray, List.set_cons_zero, List.set_cons_succ]
                    refine Till.takePure (i := 9) (v := .int .i64 ev5) rfl (by kernel_rfl) (fun _ _ _ h => h) (Or.inl ⟨by rfl, fun w _ => by go_simp⟩) (fun _ => HS5.out) ?_
                    simp only [Act.put, List.getElem_toArray, List.getElem_cons_zero, List.getElem_cons_succ, List.setIfInBounds_toArray, List.set_cons_zero, List.set_cons_succ]
                    refine Till.all (rs := [10]) (by kernel_rfl) (by simp) (Each.cons rfl (fun K hK => ?_) Each.nil)
                    go_simp
                    refine hK.out _ _ (fun h => absurd h (by decide)) ?_
                    clear hK K
                    refine Till.takePure (i := 11) (v := .bool bb) rfl (by kernel_rfl) (fun _ _ _ h => h) (Or.inl ⟨by rfl, fun w _ => by go_simp⟩) (fun h => absurd h (by decide)) ?_
                    simp only [Act.put, List.getElem_toArray, List.getElem_cons_zero, List.getElem_cons_succ, List.setIfInBounds_toArray, List.set_cons_zero, List.set_cons_succ]
                    refine Till.takePure (i := 12) (v := .int .i64 ev5) rfl (by kernel_rfl) (fun _ _ _ h => h) (Or.inl ⟨by rfl, fun w _ => by go_simp⟩) (fun h => absurd h (by decide)) ?_
                    simp only [Act.put, List.getElem_toArray, List.getElem_cons_zero, List.getElem_cons_succ, List.setIfInBounds_toArray, List.set_cons_zero, List.set_cons_succ]
                    refine Till.done (by kernel_rfl) ?_ _
                    have HT25 := hid (Mid.turn2 HE2.out HB4.out HT5.out)
                    have hfp1 : ∀ g, Fp1 g → g = q.M ∨ g = q.M + 1 ∨ q.Bt < g := fun g hg => by
                      rcases HE3.out g hg with h | h
                      · have := HBS2.out.fp g h; omega
                      · have := HQ.out.bd; omega
                    have HF5 := hid (HF3.out.turn HQ.out HT25.out hfp1)
                    have HT45 := hid (Mid.turn4 HMT.out HE4.out HB4.out HT5.out)
                    have hke : ∀ g, Fp1 g → g < WR.heap.size ∨ ∃ (cs : Array Value) (t : TypeId) (fr : Nat × Nat), W3.heap[g]? = some (Obj.cells cs t fr) := fun g hg => by
                      rcases HE2.out.kind g hg with rfl | ⟨cs, t, h⟩
                      · have := HQ.out.bt; have := HQ.out.bd; exact .inl (by omega)
                      · exact .inr ⟨cs, t, _, h⟩
                    have hew : q.w.heap.size + 1 + 1 < WR.heap.size := by have := HQ.out.c; omega
                    have HKE := hid (show KeepsFrom WR.heap.size W3 (w5.setCell ⟨q.w.heap.size + 1 + 1, 0, none⟩ (.int .i64 2)) from keeps_turn (S := fun g => Fp1 g ∨ g = q.w.heap.size + 1 + 1) ((HT25.out.mono fun g hg => .inl hg).setCell (.inr rfl) _) (fun g hg => by
                      rcases hg with hg | rfl
                      · exact hke g hg
                      · exact .inl hew))
                    have HKE2 := hid (fun (v : Value) (o : Nat) => show KeepsFrom WR.heap.size W3 (w5.setCell ⟨W2.heap.size, o, none⟩ v) from keeps_turn (S := fun g => Fp1 g ∨ g = W2.heap.size) ((HT25.out.mono fun g hg => .inl hg).setCell (.inr rfl) _) (fun g hg => by
                      rcases hg with hg | rfl
                      · exact hke g hg
                      · exact .inl hN0))
                    have HKP := hid (fun (v : Value) (o : Nat) => show KpC (fun g => q.w.heap.size + 3 ≤ g ∧ g < q.C) W3 (w5.setCell ⟨W2.heap.size, o, none⟩ v) from fun g hg => ((HT25.out.mono (S' := fun g => Fp1 g ∨ g = W2.heap.size) fun g hg => .inl hg).setCell (.inr rfl) _).block g (by have := hg.2; omega) (fun h => by
                      have h0 := hg.2
                      have h1 := HQ.out.gf
                      have h2 := HQ.out.b7
                      have h3 := HQ.out.eb
                      have h4 := HQ.out.m
                      have h5 := HQ.out.bt
                      have h6 := HQ.out.bd
                      rcases h with h | h
                      · have := hfp1 g h; omega
                      · omega))
                    have er0 := cell_blk (i := 0) HF5.out.fix.err rfl
                    have er1 := free_box (i := 0) HF5.out.fix.err
                    clear hnS hFW hS0 hT1 hNT hNB hbxl h19l hbtl hb7l hfp1
                    rcases HC5.out with ⟨rfl, hp⟩ | ⟨rfl, k, rows2, rv2, Fp2, rfl, hp, ht2, hf2, hr2⟩
                    · have HP := hid hp
                      clear hp hke
                      gi_wp2_with (refine wpListIn_store_same rfl 30 (.tmp 2) (.tmp 155) rfl 3 infoDfa (q.w.heap.size + 1) 30 _ HF5.out.fix.res rfl rfl rfl rfl ?_)
                      exact ⟨HKE.out, Bad.step HT45.out (foldC_put_err HE1.out (by rw [hpe, ← hLB.out]; exact HP.out)) HF5.out.fix.err⟩
                    · have HP := hid hp
                      have HT2 := hid ht2
                      have HF2 := hid hf2
                      have HR2' := hid hr2
                      by_cases hk : 1024 ≤ k
                      · have hk' : (1024 : Int) ≤ (k : Int) := by omega
                        clear hp hke ht2 hf2 hr2
                        gi_wp2_with (refine wpListIn_store_same rfl 30 (.tmp 2) (.tmp 159) rfl 3 infoDfa (q.w.heap.size + 1) 30 _ HF5.out.fix.res rfl rfl rfl rfl ?_)
                        exact ⟨HKE.out, Bad.step HT45.out (foldC_put_big HE1.out (by rw [hpe, ← hLB.out]; exact HP.out) hk) HF5.out.fix.err⟩
                      · have hkn : ¬ ((1024 : Int) ≤ (k : Int)) := by omega
                        have hNF : ¬ Fp W2.heap.size := fun h => by have := (HBS2.out.tab.lt _ h).2; omega
                        have HST := hid (Mid.step HQ.out HMT.out HE1.out HE2.out HE3.out HE4.out HE5.out HE6.out HB4.out HT5.out HT2.out HF2.out HR2'.out (by rw [hpe, ← hLB.out]; exact HP.out) hk hN0 hNF)
                        have hN5 : w5.ownsRow q.Bd 3 1 (.slice (some ⟨W2.heap.size, 0, none⟩) q.p.length q.p.length) q.p.length (nx.map iV) := own_blk HE5.out fun g hg => by
                          cases hg
                          exact (HT5.out.block _ (by have := HB4.out.size; omega) (HNT.out _ hN0 hNF)).trans (HB4.out.block _ (by omega))
                        have h245 : w5.heap[B24]? = some (.cells #[.slice (some ⟨W2.heap.size, 0, none⟩) q.p.length q.p.length] 22 (0, 0)) := (HT25.out.block B24 (lt_of_heap H243.out) (fun h => (HE3.out _ h).elim (fun h => by have := (HBS2.out.tab.lt _ h).2; omega) (fun h => by have := HRS.out; omega))).trans H243.out
                        have b0 := cell_blk (i := 0) h245 rfl
                        have hxp := x.2
                        have hxp' : ((x.1 : Nat) : Int) < (q.p.length : Int) := by omega
                        obtain ⟨yv, hy0⟩ := own_cell hN5 hxp
                        have hy1 := own_free (i := x.1) hN5
                        clear hp hke ht2 hf2 hr2 hN5 h245 hNF hxp er0 er1 hk
                        gi_wp2_with fail
                        exact ⟨HKE2.out _ _, HKP.out _ _, HST.out⟩
                    -- cutb>
                  case done =>
                    rintro D zs W1 hD rfl hmid hK
                    have h24 : W1.heap[B24]? = some (.cells #[.slice (some ⟨W2.heap.size, 0, none⟩) q.p.length q.p.length] 22 (0, 0)) := (hmid.turn.block B24 (by have := HRS.out; omega) (fun hs => by
                      have := HQ.out.bt
                      have := HQ.out.bd
                      rcases hs with (h | h | h) | h
                      · omega
                      · omega
                      · have := (HBS2.out.tab.lt _ (HTR.out.fR _ h)).2; omega
                      · omega)).trans H24.out
                    obtain ⟨rows', nx, rv', Fp', hnx, hbase, hown, hnxl, hNF⟩ := HBS2.out.mid HQ.out HBR.out (Nat.le_refl _) hN0 hmid hD hK
                    have HNX := hid hnx
                    have HBASE := hid hbase
                    have HOWN := hid hown
                    have HNXL := hid hnxl
                    have HNF := hid hNF
                    obtain ⟨vs, hvs, hlen, hrows⟩ := hbase.nxt.ex
                    have HVS := hid hvs
                    have HROWS := hid hrows
                    obtain ⟨adn, cpn, rfl⟩ := own_shape hvs
                    obtain ⟨ade, cpe, rfl⟩ := own_shape hbase.fins
                    have HFINS := hid hbase.fins
                    have HLEN := hid hlen
                    have hvm : vs.length ≤ 1024 := by have h1 := HN.out.len; have h2 := HN.out.most; omega
                    have hfm : fin.length ≤ 1024 := by have h1 := HN.out.flen; have h2 := HN.out.most; omega
                    have hbl := lt_of_heap hbase.dbox
                    obtain ⟨iR, hiR, hiR0, hiR1, hiR2⟩ := info_parts infoR
                    have HIR := hid hiR
                    have HZR := hid (And.intro hiR0 (And.intro hiR1 hiR2))
                    obtain ⟨iB, hiB, hiB0, hiB1, hiB2⟩ := info_parts infoL
                    have HIB := hid hiB
                    have HZB2 := hid (And.intro hiB0 (And.intro hiB1 hiB2))
                    have c1 := cell_blk (i := 1) hbase.dbox rfl
                    have c24 := cell_blk (i := 0) h24 rfl
                    clear hlen hnx hbase hown hnxl hNF hvs hrows hiR hiR0 hiR1 hiR2 hiB hiB0 hiB1 hiB2 h24 hmid hK
                    go_upto_region 49 with (first | (at_builtin; refine wpList_append_own_at _ rfl _ _ 27 rfl q.Bd 22 iR (.slice none 0 0) 1 24 Tryd.underlying27 HIR.out HZR.out.1 HZR.out.2.1 HZR.out.2.2 rfl (by decide) (.slice adn vs.length cpn) vs.length vs (by rfl) (HVS.out.alloc _) ⟨W1.heap.size, 0, none⟩ 1 1 [.slice (some ⟨W2.heap.size, 0, none⟩) q.p.length q.p.length] (by rfl) rfl (cell_one_new _ _ _) (one_cell_one rfl) (by unfold maxLen; omega) (by omega) (by simp; omega) ?_; intro nv' w5 ho5 hg5 _ hat5; obtain ⟨adn', cpn', rfl⟩ := own_shape ho5; have HO5 := hid ho5; have HG5 := hid hg5; have HAT5 := hid hat5; have hd5 := Base.dbox2 HBASE.out HVS.out (by decide) hg5; have x1 := cell_blk (i := 1) hd5 rfl; have x2 := free_box (i := 1) hd5; clear ho5 hg5 hat5 hd5))
                    have HBN := hid (HBASE.out.addNext HQ.out HVS.out HLEN.out HROWS.out (l := nx) (by unfold OwnInts; rw [HNXL.out]; exact HOWN.out) (fun g hg => by cases hg; exact HNF.out) HO5.out HG5.out HAT5.out)
                    generalize w5.setCell ⟨q.Bd, 1, none⟩ (.slice adn' (vs.length + 1) cpn') = w6 at *
                    have hd6 := HBN.out.dbox
                    have hb6 := lt_of_heap hd6
                    have x3 := cell_blk (i := 2) hd6 rfl
                    clear x1 x2 hd6
                    go_wp2_with (at_builtin; refine wpList_append_own_at _ rfl _ _ 28 rfl q.Bd 4 iB (.bool false) 1 1 Tryd.underlying28 HIB.out HZB2.out.1 HZB2.out.2.1 HZB2.out.2.2 rfl (by decide) (.slice ade fin.length cpe) fin.length (fin.map Value.bool) (by rfl) (HBN.out.fins.alloc _) ⟨w6.heap.size, 0, none⟩ 1 1 [.bool fb] (by rfl) rfl (cell_one_new _ _ _) (one_cell_one rfl) (by unfold maxLen; omega) (by omega) (by simp; omega) ?_; intro ev' w7 ho7 hg7 _ hat7; obtain ⟨ade', cpe', rfl⟩ := own_shape ho7; have HO7 := hid ho7; have HG7 := hid hg7; have HAT7 := hid hat7; have hd7 := Base.dbox2 HBN.out HBN.out.fins (by decide) hg7; have y1 := cell_blk (i := 2) hd7 rfl; have y2 := free_box (i := 2) hd7; clear ho7 hg7 hat7 hd7)
                    have HBE2 := hid (HBN.out.addFin HQ.out (x := fb) HO7.out HG7.out HAT7.out)
                    have hnum := HN.out.good hs (by rw [← HROW.out]; exact HNX.out)
                    rw [← HROW.out, HFB.out] at hnum
                    refine And.intro (AtLoop.mk (s := s + 1) (Ds := D :: Ds) (by rfl) (by rw [← HDS.out]; rfl) ⟨_, _, _, _, _, _, _, HBE2.out, hnum⟩) ?_
                    have hs1 := HN.out.most
                    simp [intOf]
                    omega
                  case stop =>
                    rintro D c pre W1 hD hpre hbad hK
                    obtain ⟨rfl, hturn, hbad, herr⟩ := hbad
                    obtain ⟨kk, hkk, rfl⟩ := hpre
                    have hof := HN.out.bad hs (by rw [← HROW.out]; exact foldC_bad hbad)
                    have hds := HDS.out
                    subst hds
                    refine wpIn_ret ?_
                    have hS : ∀ g, (S0 q rv W2.heap.size g ∨ g = q.w.heap.size + 1 + 1) → Fp g ∨ g = W2.heap.size ∨ g = q.w.heap.size + 1 + 1 := fun g hg => by
                      rcases hg with ((h | h | h) | h) | h
                      · exact .inl (by rw [h]; exact HTR.out.fT)
                      · exact .inl (by rw [h]; exact HTR.out.fM)
                      · exact .inl (HTR.out.fR _ h)
                      · exact .inr (.inl h)
                      · exact .inr (.inr h)
                    have k1 := HQ.out.c
                    have k2 := HQ.out.gf
                    have k3 := HQ.out.b7
                    have k4 := HQ.out.eb
                    have k5 := HQ.out.m
                    have k6 := HQ.out.bt
                    have k7 := HQ.out.bd
                    have k8 := HBR.out.size
                    have k9 := lt_of_heap HBS2.out.dbox
                    have hres := (hturn.block _ (lt_of_heap HFR.out.fix.res) (fun hs => by
                      rcases hS _ hs with h | h | h
                      · have := HBS2.out.fp _ h; omega
                      · omega
                      · omega)).trans HFR.out.fix.res
                    have hbel : Below q.w.heap.size q.w W1 := HFR.out.fix.below.trans (hturn.below (by omega) (fun g hg => by
                      rcases hS _ hg with h | h | h
                      · have := HBS2.out.fp _ h; omega
                      · omega
                      · omega))
                    have hnd : (D :: Ds).Nodup := List.nodup_cons.2 ⟨fun hm => by
                      have := lt_of_heap (HBS2.out.ds D hm).2
                      omega, HBS2.out.nodup⟩
                    have hdd : ∀ E ∈ D :: Ds, W1.heap[E]? = some (.deferred (some [])) := fun E hE => by
                      rcases List.mem_cons.1 hE with rfl | hE
                      · exact hK
                      · have h1 := (HBS2.out.ds E hE).1
                        have h2 := lt_of_heap (HBS2.out.ds E hE).2
                        exact ((hturn.block E (by omega) (fun hs => by
                          rcases hS _ hs with h | h | h
                          · exact HBS2.out.apart HQ.out E hE h
                          · omega
                          · omega)).trans (HBR.out.block E h2)).trans (HBS2.out.ds E hE).2
                    have hlow : ∀ E ∈ D :: Ds, q.w.heap.size ≤ E := fun E hE => by
                      rcases List.mem_cons.1 hE with rfl | hE
                      · omega
                      · have := (HBS2.out.ds E hE).1; omega
                    exact (show postM Tryd.prog Tryd.f13 (OfPost q.w (match ofFrom q.n q.p 1026 0 [sortU q.n.starts] [] [] with | .error e => .error e | .ok (next, fin) => .ok ⟨q.cl, next, fin⟩)) Exit.ret ⟨_, (D :: Ds).map markD⟩ W1 from by
                      rw [hof]
                      exact of_stops hres herr hbel hnd hdd (by rfl) (by rfl) hlow)
            · have hs' : ¬ ((s : Int) < (rows.length : Int)) := by omega
              obtain ⟨vs, hvs, _, _⟩ := HB.out.nxt.ex
              obtain ⟨adn, cpn, rfl⟩ := own_shape hvs
              obtain ⟨ade, cpe, rfl⟩ := own_shape HB.out.fins
              clear hvs
              have hlast := hid (HN.out.last hs)
              have hcl := hid (classM_len HCL.out)
              have hbl := lt_of_heap HB.out.dbox
              have hz := HB.out.fixed.fix.size
              have k1 := HQ.out.c
              have k2 := HQ.out.gf
              have k3 := HQ.out.b7
              have k4 := HQ.out.eb
              have k5 := HQ.out.m
              have k6 := HQ.out.bt
              have k7 := HQ.out.bd
              have h1 : (W.setRow (q.w.heap.size + 1) #[.slice (some ⟨q.C, 0, none⟩) 256 256, .slice adn vs.length cpn, .slice ade fin.length cpe]).heap[q.w.heap.size + 1]? = some (.cells #[.slice (some ⟨q.C, 0, none⟩) 256 256, .slice adn vs.length cpn, .slice ade fin.length cpe] 30 (0, 0)) := setRow_heap HB.out.fixed.fix.res _
              have h2 : (W.setRow (q.w.heap.size + 1) #[.slice (some ⟨q.C, 0, none⟩) 256 256, .slice adn vs.length cpn, .slice ade fin.length cpe]).heap[q.w.heap.size + 1 + 1]? = some (.cells #[.int .i64 0] 31 (0, 0)) := (setRow_other _ (by omega)).trans HB.out.fixed.fix.err
              have H1 := hid h1
              have H2 := hid h2
              have HTU := hid (show Turn (fun g => g = q.w.heap.size + 1 ∨ g = q.w.heap.size + 1 + 1) W ((W.setRow (q.w.heap.size + 1) #[.slice (some ⟨q.C, 0, none⟩) 256 256, .slice adn vs.length cpn, .slice ade fin.length cpe]).setCell ⟨q.w.heap.size + 1 + 1, 0, none⟩ (.int .i64 0)) from
                Turn.setCell (S := fun g => g = q.w.heap.size + 1 ∨ g = q.w.heap.size + 1 + 1) (turn_setRow (.inl rfl) _) (.inr rfl) _)
              have x0 := cell_blk (i := 0) h2 rfl
              have x1 := free_box (i := 0) h2
              clear h1 h2
              go_upto_region 50 with (first | (go_at_call 43; refine hsz.mono ?_; clear hsz; rintro e W ⟨rfl, rfl⟩))
              go_step
              refine wpList_load_blk rfl 30 (.tmp 17) rfl 3 infoDfa _ Tryd.underlying30 rfl q.Bd rfl 30 _ HB.out.dbox rfl ?_
              refine wpList_store_blk rfl 30 (.tmp 2) (.tmp 176) rfl 3 infoDfa (q.w.heap.size + 1) 30 _ HB.out.fixed.fix.res rfl #[.slice (some ⟨q.C, 0, none⟩) 256 256, .slice adn vs.length cpn, .slice ade fin.length cpe] rfl rfl rfl rfl ?_
              generalize W.setRow (q.w.heap.size + 1) #[.slice (some ⟨q.C, 0, none⟩) 256 256, .slice adn vs.length cpn, .slice ade fin.length cpe] = W5 at *
              iterate 7 go_step
              have hds := HDS.out
              subst hds
              exact (show postM Tryd.prog Tryd.f13 (OfPost q.w (match ofFrom q.n q.p 1026 0 [sortU q.n.starts] [] [] with | .error e => .error e | .ok (next, fin) => .ok ⟨q.cl, next, fin⟩)) Exit.ret ⟨_, Ds.map markD⟩ _ from by
                rw [hlast.out]
                exact of_ends HB.out HN.out HQ.out hcl.out HTU.out ((heap_setCell_other _ _ _ _ (by simp)).trans H1.out) (box_set _ H2.out) (by rfl) (by rfl))
end Go.Proofs.YtfjomnhdmkbkiaaDoor.Im
