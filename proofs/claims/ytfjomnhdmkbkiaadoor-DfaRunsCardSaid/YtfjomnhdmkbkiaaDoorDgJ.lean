/-
  The contract of dfa.Back: any automaton of one way.
-/
import Derived.Test.YtfjomnhdmkbkiaaDoorDgI
namespace Go.Proofs.YtfjomnhdmkbkiaaDoor.Im
open Go.RowKit Go.Lib Go.Maps Go.Shelf

theorem back_bad {d : Dfa} (h : dfaOk d = false) : backM d = .error 1 := by unfold backM; rw [if_neg (by rw [h]; decide)]
theorem back_of {d : Dfa} {p : List Se} (h : dfaOk d = true) (hp : setsOf d.cls = some p) : backM d = match backFrom d p d.next.length 0 [] [] with | .error e => .error e | .ok (ends, es) => .ok ⟨d.next.length, [0], ends, es⟩ := by
  unfold backM
  rw [if_pos h, hp]
  dsimp only
  cases backFrom d p d.next.length 0 [] [] <;> rfl
attribute [local go_sem] Oper.semAt_some
theorem infoE : (Tryd.prog.info? 67).map (fun i => (i.zero, i.size, i.bytes)) = some (some (.agg #[.int .i64 0, .int .i64 0, .int .u64 0, .int .u64 0, .int .u64 0, .int .u64 0]), 6, 48) := by kernel_rfl
theorem parts_few {d : Dfa} {p : List Se} (hp : setsOf d.cls = some p) (hok : dfaOk d = true) : p.length ≤ 256 ∧ ∀ row ∈ d.next, row.length = p.length ∧ ∀ s ∈ row, 0 ≤ s ∧ s < (d.next.length : Int) := by
  obtain ⟨m, hm, hl, _, _, _, hc, hr⟩ := dfaOk_parts hok
  have h1 := setsOf_parts d.cls
  rw [hp, hm] at h1
  obtain rfl : p.length = m := Option.some.inj h1
  refine ⟨?_, hr⟩
  have := parts_le d.cls 0 p.length (by
    unfold partsOf at hm
    rw [if_pos hl] at hm
    exact hm)
  omega
where parts_le : ∀ (l : List Int) (n m : Nat), parts n l = some m → m ≤ n + l.length
  | [], n, m, h => by unfold parts at h; cases h; simp
  | x :: l, n, m, h => by
    unfold parts at h
    split at h
    · cases h
    · split at h
      · have := parts_le l (n + 1) m h; simp; omega
      · have := parts_le l n m h; simp; omega
set_option maxRecDepth 100000 in
set_option maxHeartbeats 4000000 in
theorem back_err {F : Nat → Prop} {w : World} {a b c : Value} {d : Dfa} (hd : DfaIn F w a b c d) (hF : ∀ g, F g → g < w.heap.size) (hno : dfaOk d = false) :
    Calls Tryd.prog 22 #[.agg #[a, b, c]] w (TextPost w (.error 1)) := by
  obtain ⟨ad1, cp1, rfl, hm1, _⟩ := hd.cls
  obtain ⟨ad2, cp2, rfl, hm2, _⟩ := hd.next
  obtain ⟨ad3, cp3, rfl, hm3, _⟩ := hd.fin
  unfold maxLen at hm1 hm2 hm3
  have HD := hid hd
  have HF := hid hF
  have HNO := hid hno
  clear hd hF hno
  refine calls_marks Tryd.func22 rfl ?_
  simp only [Tryd.ntmps22, List.size_toArray, List.length_cons, List.length_nil, Nat.reduceAdd, Nat.reduceSub, Array.replicate_succ, Array.replicate_zero, List.push_toArray, List.append_toArray, List.nil_append, List.cons_append]
  go_wp2_with fail
  obtain ⟨W0, hW0⟩ : ∃ W0, W0 = (w.alloc (.cells #[.slice ad1 d.cls.length cp1, .slice ad2 d.next.length cp2, .slice ad3 d.fin.length cp3] 30)).alloc (.cells #[.int .i64 0, .slice none 0 0, .slice none 0 0, .slice none 0 0] 25) := ⟨_, rfl⟩
  have HA0 := hid (show W0.heap[w.heap.size]? = some (.cells #[.slice ad1 d.cls.length cp1, .slice ad2 d.next.length cp2, .slice ad3 d.fin.length cp3] 30 (0, 0)) by rw [hW0]; exact (alloc_old (by simp)).trans (heap_alloc_new _ _))
  have HR0 := hid (show W0.heap[w.heap.size + 1]? = some (.cells #[.int .i64 0, .slice none 0 0, .slice none 0 0, .slice none 0 0] 25 (0, 0)) by rw [hW0]; exact newB _ _ _)
  have HB0 := hid (show Below w.heap.size w W0 by rw [hW0]; exact ((Below.refl _ _).alloc (Nat.le_refl _) _).alloc (by simp) _)
  have HZ0 := hid (show W0.heap.size = w.heap.size + 2 by rw [hW0]; simp)
  rw [← hW0]
  clear hW0
  have hst := sets_any (HD.out.frame (F' := F) (w' := W0) (fun _ h => h) (fun g hg _ => HB0.out.block g (HF.out g hg))).cls (fun g hg => by have := HF.out g hg; have := HZ0.out; omega)
  refine hst.mono ?_
  clear hst
  rintro e w1 ⟨hb1, hp1⟩
  have HA1 := hid ((hb1.block _ (lt_of_heap HA0.out)).trans HA0.out)
  have HR1 := hid ((hb1.block _ (lt_of_heap HR0.out)).trans HR0.out)
  have HB1 := hid (HB0.out.trans (hb1.mono HB0.out.size))
  clear hb1
  obtain ⟨q0, q1, q2⟩ := dcells HA1.out
  rcases hx : setsOf d.cls with _ | ss
  · rw [hx] at hp1
    obtain rfl := hp1
    clear hx
    go_wp2_with (refine wpList_store_same rfl 25 (.tmp 2) (.tmp 27) rfl 4 infoNfa (w.heap.size + 1) 25 _ HR1.out rfl rfl rfl rfl ?_)
    exact back_stops (Ds := []) HR1.out HB1.out List.nodup_nil (fun D hD => by cases hD) rfl rfl (fun D hD => by cases hD)
  · rw [hx] at hp1
    obtain ⟨adp, cpp, rfl, hown⟩ := hp1
    have hch := dfaCheck_any (HD.out.frame (F' := F) (w' := w1) (fun _ h => h) (fun g hg _ => HB1.out.block g (HF.out g hg))) (fun g hg => by have := HF.out g hg; have := HB1.out.size; omega)
    rw [errOf_false HNO.out] at hch
    clear hx hown
    go_wp2_with fail
    refine hch.mono ?_
    clear hch
    rintro e w2 ⟨rfl, hb2⟩
    have HR2 := hid ((hb2.block _ (lt_of_heap HR1.out)).trans HR1.out)
    have HB2 := hid (HB1.out.trans (hb2.mono HB1.out.size))
    clear hb2 q0 q1 q2
    go_wp2_with (refine wpList_store_same rfl 25 (.tmp 2) (.tmp 27) rfl 4 infoNfa (w.heap.size + 1) 25 _ HR2.out rfl rfl rfl rfl ?_)
    exact back_stops (Ds := []) HR2.out HB2.out List.nodup_nil (fun D hD => by cases hD) rfl rfl (fun D hD => by cases hD)
theorem turn_rowB {S : Nat → Prop} {w : World} {g : Nat} (hg : S g) (cs : Array Value) : Turn S w (w.setRow g cs) :=
  ⟨rfl, rfl, rfl, by simp, fun k _ hk => setRow_other _ (fun e => hk (e ▸ hg))⟩
theorem infoArr : (Tryd.prog.info? 85).map (·.size) = some 4096 := by kernel_rfl
theorem wpList_index_arr {ops : Array Oper} {rest : List Oper} {o : Oper} {a : Act} {w : World} {Q : Exit → Act → World → Prop} (hgd : o.guard = none) (x ix : Operand) (ho : o.op = .index 85 x ix) (l : List Se) (j : Nat) (hj : j < l.length) (hl : l.length = 1024)
    (sk : Se) (hsk : l[j] = sk) (hx : a.eval x = .agg (flat l).toArray) (hi : a.eval ix = .int .i64 (j : Int)) (h : wpList Tryd.prog ops Q rest (a.put o.dst (.agg sk.cs)) w) : wpList Tryd.prog ops Q (o :: rest) a w := by
  subst hsk
  refine wpList_plain hgd fun K hK => ?_
  unfold Oper.wp execOp
  simp only [ho, hx, hi, Sem.run_bind, Sem.run_pure, run_index_arr l j hj hl, Result.andThen_ok]
  exact hK _ _ h
theorem axK_mk {q : BPar} {B s B8 B9 Bx : Nat} {c : Int} {cs : Array Value} {W : World} {tmps : Array Value} (h1 : B ≤ Bx) (h2 : W.heap[Bx]? = some (.cells cs 65 (0, 0))) (h : tmps = frmKB q (fun i => tmps.getD i undef) s B8 B9 Bx c) :
    ∃ Bx u', B ≤ Bx ∧ W.heap[Bx]? = some (.cells cs 65 (0, 0)) ∧ ({ tmps := tmps, defers := [] } : Act) = { tmps := frmKB q u' s B8 B9 Bx c, defers := [] } :=
  ⟨Bx, _, h1, h2, congrArg (fun t => ({ tmps := t, defers := [] } : Act)) h⟩
set_option maxRecDepth 100000 in
set_option maxHeartbeats 16000000 in
theorem back_main {F : Nat → Prop} {w : World} {a b c : Value} {d : Dfa} {p : List Se} (hd : DfaIn F w a b c d) (hF : ∀ g, F g → g < w.heap.size) (hok : dfaOk d = true) (hp : setsOf d.cls = some p) :
    Calls Tryd.prog 22 #[.agg #[a, b, c]] w (TextPost w (match backFrom d p d.next.length 0 [] [] with | .error e => .error e | .ok (ends, es) => .ok ⟨d.next.length, [0], ends, es⟩)) := by
  obtain ⟨ad1, cp1, rfl, hm1, _⟩ := hd.cls
  obtain ⟨ad2, cp2, rfl, hm2, _⟩ := hd.next
  obtain ⟨ad3, cp3, rfl, hm3, _⟩ := hd.fin
  unfold maxLen at hm1 hm2 hm3
  have HD := hid hd
  have HF := hid hF
  have HOK := hid hok
  have HP := hid hp
  obtain ⟨g2, o2, rfl⟩ : ∃ g2 o2, ad2 = some ⟨g2, o2, none⟩ := by
    obtain ⟨_, _, _, hn1, _⟩ := dfaOk_parts hok
    obtain ⟨g2, o2, _, h, _⟩ := rows_at hd.next (show 0 < d.next.length by omega)
    exact ⟨g2, o2, h⟩
  clear hd hF hok hp
  refine calls_marks Tryd.func22 rfl ?_
  simp only [Tryd.ntmps22, List.size_toArray, List.length_cons, List.length_nil, Nat.reduceAdd, Nat.reduceSub, Array.replicate_succ, Array.replicate_zero, List.push_toArray, List.append_toArray, List.nil_append, List.cons_append]
  go_wp2_with fail
  obtain ⟨W0, hW0⟩ : ∃ W0, W0 = (w.alloc (.cells #[.slice ad1 d.cls.length cp1, .slice (some ⟨g2, o2, none⟩) d.next.length cp2, .slice ad3 d.fin.length cp3] 30)).alloc (.cells #[.int .i64 0, .slice none 0 0, .slice none 0 0, .slice none 0 0] 25) := ⟨_, rfl⟩
  have HA0 := hid (show W0.heap[w.heap.size]? = some (.cells #[.slice ad1 d.cls.length cp1, .slice (some ⟨g2, o2, none⟩) d.next.length cp2, .slice ad3 d.fin.length cp3] 30 (0, 0)) by rw [hW0]; exact (alloc_old (by simp)).trans (heap_alloc_new _ _))
  have HR0 := hid (show W0.heap[w.heap.size + 1]? = some (.cells #[.int .i64 0, .slice none 0 0, .slice none 0 0, .slice none 0 0] 25 (0, 0)) by rw [hW0]; exact newB _ _ _)
  have HB0 := hid (show Below w.heap.size w W0 by rw [hW0]; exact ((Below.refl _ _).alloc (Nat.le_refl _) _).alloc (by simp) _)
  have HZ0 := hid (show W0.heap.size = w.heap.size + 2 by rw [hW0]; simp)
  rw [← hW0]
  clear hW0
  have hst := sets_any (HD.out.frame (F' := F) (w' := W0) (fun _ h => h) (fun g hg _ => HB0.out.block g (HF.out g hg))).cls (fun g hg => by have := HF.out g hg; have := HZ0.out; omega)
  rw [HP.out] at hst
  refine hst.mono ?_
  clear hst
  rintro e w1 ⟨hb1, adp, cpp, rfl, hown⟩
  have HA1 := hid ((hb1.block _ (lt_of_heap HA0.out)).trans HA0.out)
  have HR1 := hid ((hb1.block _ (lt_of_heap HR0.out)).trans HR0.out)
  have HB1 := hid (HB0.out.trans (hb1.mono HB0.out.size))
  have hpf := parts_few HP.out HOK.out
  have HPF := hid hpf.2
  have hpl := hpf.1
  have HS1 := hid (sets_of_own hown rfl (by unfold maxLen; omega))
  clear hb1 hown hpf
  obtain ⟨q0, q1, q2⟩ := dcells HA1.out
  have hch := dfaCheck_any (HD.out.frame (F' := F) (w' := w1) (fun _ h => h) (fun g hg _ => HB1.out.block g (HF.out g hg))) (fun g hg => by have := HF.out g hg; have := HB1.out.size; omega)
  rw [errOf_true HOK.out] at hch
  go_wp2_with fail
  refine hch.mono ?_
  clear hch q0 q1 q2
  rintro e w2 ⟨rfl, hb2⟩
  have HA2 := hid ((hb2.block _ (lt_of_heap HA1.out)).trans HA1.out)
  have HR2 := hid ((hb2.block _ (lt_of_heap HR1.out)).trans HR1.out)
  have HB2 := hid (HB1.out.trans (hb2.mono HB1.out.size))
  have HS2 := hid (SetsIn.frame HS1.out (F' := fun g => w.heap.size + 2 ≤ g ∧ g < w2.heap.size) (w' := w2) (fun g hg => ⟨by have := hg.1; have := HZ0.out; omega, by have := hg.2; have := hb2.size; omega⟩) (fun g hg hl => hb2.block g hl))
  have hz2 : w.heap.size + 2 ≤ w2.heap.size := by have := hb2.size; have := lt_of_heap HR1.out; omega
  clear hb2
  obtain ⟨m0, hmk, hl256, hn1, hn1024, hfl, _, _⟩ := dfaOk_parts HOK.out
  have HFL := hid hfl
  clear hmk hl256 hfl
  obtain ⟨q0, q1, q2⟩ := dcells HA2.out
  go_upto_region 5 with fail
  obtain ⟨W4, hW4⟩ : ∃ W4, W4 = (w2.alloc (.cells #[.int .i64 0] 3)).alloc (.cells #[.int .i64 d.next.length, .slice (some ⟨w2.heap.size, 0, none⟩) 1 1, .slice none 0 0, .slice none 0 0] 25) := ⟨_, rfl⟩
  rw [← hW4]
  have HB4 := hid (show Below w2.heap.size w2 W4 by rw [hW4]; exact ((Below.refl _ _).alloc (Nat.le_refl _) _).alloc (by simp) _)
  have HST4 := hid (show W4.heap[w2.heap.size]? = some (.cells #[.int .i64 0] 3 (0, 0)) by rw [hW4]; exact (alloc_old (by simp)).trans (heap_alloc_new _ _))
  have HNB4 := hid (show W4.heap[w2.heap.size + 1]? = some (.cells #[.int .i64 d.next.length, .slice (some ⟨w2.heap.size, 0, none⟩) 1 1, .slice none 0 0, .slice none 0 0] 25 (0, 0)) by rw [hW4]; exact newB _ _ _)
  have HA4 := hid ((HB4.out.block _ (lt_of_heap HA2.out)).trans HA2.out)
  have HR4 := hid ((HB4.out.block _ (lt_of_heap HR2.out)).trans HR2.out)
  have HBB := hid (HB2.out.trans (HB4.out.mono HB2.out.size))
  have HS4 := hid (SetsIn.frame HS2.out (F' := fun g => w.heap.size + 2 ≤ g ∧ g < w2.heap.size) (w' := W4) (fun _ h => h) (fun g hg hl => HB4.out.block g hl))
  obtain ⟨S0, hS0⟩ : ∃ S0, S0 = w2.heap.size := ⟨_, rfl⟩
  obtain ⟨C0, hC0⟩ : ∃ C0, C0 = S0 + 1 := ⟨_, rfl⟩
  rw [← hS0] at HST4 HNB4 HS4 hz2 ⊢
  rw [← hC0] at HNB4 ⊢
  have HDD := hid (HD.out.frame (F' := fun g => g < w.heap.size) (fun g hg => HF.out g hg) (fun _ _ _ => rfl))
  clear hW4 q0 q1 q2 HB4 HA2 HR2 HB2 HS2 hS0 HA1 HR1 HB1 HS1 HA0 HR0 HB0 HZ0
  obtain ⟨q, e1, e2, e3, e4, e5, e6, e14, e7, e8, e9, e10, e11, e12, e13⟩ : ∃ q : BPar, w = q.w ∧ d = q.d ∧ p = q.p ∧ ad1 = q.ad1 ∧ cp1 = q.cp1 ∧ g2 = q.g2 ∧ o2 = q.o2 ∧ cp2 = q.cp2 ∧ ad3 = q.ad3 ∧ cp3 = q.cp3 ∧ adp = q.adp ∧ cpp = q.cpp ∧ S0 = q.S ∧ C0 = q.C :=
    ⟨⟨w, d, p, ad1, cp1, g2, o2, cp2, ad3, cp3, adp, cpp, S0, C0⟩, rfl, rfl, rfl, rfl, rfl, rfl, rfl, rfl, rfl, rfl, rfl, rfl, rfl, rfl⟩
  subst e1 e2 e3 e4 e5 e6 e14 e7 e8 e9 e10 e11 e12 e13
  have HQ := hid (show q.Ok from ⟨hz2, by omega, hn1024, HFL.out, hpl, HPF.out, HDD.out⟩)
  have HB0 := hid (show BBase q W4 [] [] [] (.slice none 0 0) (.slice none 0 0) from ⟨HA4.out, HR4.out, HBB.out, HS4.out, HST4.out, HNB4.out, World.ownsRow_nil _ _ _ _, World.ownsRow_nil _ _ _ _, List.nodup_nil, fun D hD => by cases hD⟩)
  have HN0 := hid (show BNum q 0 [] [] from ⟨Nat.zero_le _, Nat.le_refl _, by simp, rfl⟩)
  obtain ⟨q0, q1, q2⟩ := dcells HA4.out
  go_wp2_with fail
  clear q0 q1 q2 HA4 HR4 HBB HS4 HST4 HNB4 HDD hz2 hC0 HPF HFL HOK HP HD HF hpl hn1 hn1024
  refine wp_loop (BLoop q) (fun a _ => q.d.next.length - (intOf (a.tmps.getD 36 undef)).toNat) ?_ ?_
  · exact BLoop.mk (by rfl) rfl ⟨_, _, _, _, HB0.out, HN0.out⟩
  · clear HB0 HN0
    rintro a W ⟨u, s, Ds, rfl, ends, es, ev, xv, hb, hnum⟩
    have HB := hid hb
    have HN := hid hnum
    obtain ⟨ade, cpe, rfl⟩ := own_shape hb.ends
    obtain ⟨adx, cpx, rfl⟩ := own_shape hb.eds
    clear hb hnum
    dsimp only [frmK]
    generalize hds : Ds.map markD = ds
    have HDS := hid hds
    clear hds
    have hnl := HQ.out.nl
    have hbz := HB.out.below.size
    have hcs := HQ.out.c
    have hss := HQ.out.s
    have hcl := lt_of_heap HB.out.nb
    by_cases hs : s < q.d.next.length
    · have hs' : (s : Int) < (q.d.next.length : Int) := by omega
      have hel := HN.out.elen
      have hxl := HN.out.xlen
      obtain ⟨g, off, v, hg2, hgl, hrc0, hri⟩ := rows_at HQ.out.dfa.next hs
      have hrc := (cell_heap (o := off + s) (HB.out.below.block g hgl)).trans hrc0
      clear hrc0
      obtain ⟨g3, off3, hg3, hg3l, hfc⟩ := bools_at (HQ.out.dfa.fin.frame (F' := fun g => g < q.w.heap.size) (w' := W.alloc (.cells #[v] 22)) (fun _ h => h) (fun g hg _ => (alloc_old (by have := HB.out.below.size; omega)).trans (HB.out.below.block g hg))) (by rw [HQ.out.fl]; exact hs)
      have hrl := HQ.out.rows _ (List.getElem_mem hs)
      obtain ⟨adr, cpr, rfl, hrm, _⟩ := id hri
      have HRI := hid hri
      have HFB := hid (show q.d.fin.getD s false = q.d.fin[s]'(by rw [HQ.out.fl]; exact hs) by rw [List.getD_eq_getElem?_getD, List.getElem?_eq_getElem (by rw [HQ.out.fl]; exact hs)]; rfl)
      have HROW := hid (show q.d.next.getD s [] = q.d.next[s] by rw [List.getD_eq_getElem?_getD, List.getElem?_eq_getElem hs]; rfl)
      obtain ⟨row, hrow⟩ : ∃ row, row = q.d.next[s] := ⟨_, rfl⟩
      rw [← hrow] at hrc hri hrl hrm HRI HROW hfc
      obtain ⟨fb, hfb⟩ : ∃ fb, fb = q.d.fin[s]'(by rw [HQ.out.fl]; exact hs) := ⟨_, rfl⟩
      rw [← hfb] at hfc HFB
      have HRL := hid hrl
      have hrl256 : row.length ≤ 256 := by rw [hrl.1]; exact HQ.out.pl
      have hfl' : s < q.d.fin.length := by rw [HQ.out.fl]; exact hs
      obtain ⟨Wb, hWb⟩ : ∃ Wb, Wb = W.alloc (.cells #[.slice adr row.length cpr] 22) := ⟨_, rfl⟩
      have HBb := hid (HB.out.below' (show Below W.heap.size W Wb by rw [hWb]; exact (Below.refl _ _).alloc (Nat.le_refl _) _))
      have H8b := hid (show Wb.heap[W.heap.size]? = some (.cells #[.slice adr row.length cpr] 22 (0, 0)) by rw [hWb]; exact heap_alloc_new _ _)
      have HZb := hid (show Wb.heap.size = W.heap.size + 1 by rw [hWb, World.size_alloc])
      obtain ⟨B8, hB8⟩ : ∃ B8, B8 = W.heap.size := ⟨_, rfl⟩
      rw [← hB8] at H8b
      obtain ⟨q0, q1, q2⟩ := dcells HB.out.arg
      cases hg2
      rw [← hWb] at hfc
      clear hrow hfb hri hrl hrm
      go_upto_region 8 with fail
      rw [← hWb, ← hB8]
      clear hWb q0 q1 q2 hrc
      obtain ⟨q0, q1, q2⟩ := dcells HBb.out.arg
      obtain ⟨iI, hiI, hiI0, hiI1, hiI2⟩ := info_parts infoI
      have HII := hid hiI
      have HZI := hid (And.intro hiI0 (And.intro hiI1 hiI2))
      clear hiI hiI0 hiI1 hiI2
      have HB8 := hid hB8
      have hB8w : W.heap.size ≤ B8 := by omega
      clear hB8
      have c2 := cell_blk (i := 2) HBb.out.nb rfl
      have hcb := lt_of_heap HBb.out.nb
      have h8l := lt_of_heap H8b.out
      have hsn := hs
      clear hs' hgl hg3l
      cases fb
      focus
        go_upto_region 10 with fail
        have HB5 := hid HBb.out
        have H85 := hid H8b.out
        have HE5 := hid (show ends = if q.d.fin.getD s false then ends ++ [(s : Int)] else ends by rw [HFB.out]; rfl)
        have hz5 : W.heap.size < Wb.heap.size := by have := HZb.out; omega
        clear HBb H8b HFB hfc hg3 c2 q0 q1 q2 HZb h8l hcb HII HZI
        obtain ⟨ends5, hends5⟩ : ∃ ends5, ends5 = ends := ⟨_, rfl⟩
        obtain ⟨ade5, hade5⟩ : ∃ a, a = ade := ⟨_, rfl⟩
        obtain ⟨cpe5, hcpe5⟩ : ∃ a, a = cpe := ⟨_, rfl⟩
        obtain ⟨W5, hW5⟩ : ∃ a, a = Wb := ⟨_, rfl⟩
        rw [← hends5, ← hade5, ← hcpe5] at HB5
        rw [← hW5] at HB5 H85 hz5 ⊢
        have HE5 := hid (show ends5 = if q.d.fin.getD s false then ends ++ [(s : Int)] else ends from hends5.trans HE5.out)
        clear hends5 hade5 hcpe5 hW5
      rotate_left
      focus
        go_upto_region 10 with (at_builtin; refine wpList_append_own_at _ rfl _ _ 22 rfl q.C 3 iI (.int .i64 0) 1 8 Tryd.underlying22 HII.out HZI.out.1 HZI.out.2.1 HZI.out.2.2 rfl (by decide) (.slice ade ends.length cpe) ends.length (ends.map iV) (by rfl) (HBb.out.ends.alloc _) ⟨Wb.heap.size, 0, none⟩ 1 1 [.int .i64 s] (by rfl) rfl (cell_one_new _ _ _) (one_cell_one rfl) (by unfold maxLen; omega) (by omega) (by simp; omega) ?_; intro ev' w5 ho5 hg5 _ hat5; obtain ⟨ade', cpe', rfl⟩ := own_shape ho5; have HO5 := hid ho5; have HG5 := hid hg5; have hd5 := (HBb.out.grown (i := 2) (v' := undef) HQ.out (.inr ⟨_, HBb.out.ends⟩) (by decide) hg5).2.1.trans HBb.out.nb; have x1 := cell_blk (i := 2) hd5 rfl; have x2 := free_box (i := 2) hd5; clear ho5 hg5 hat5 hd5)
        have HB5 := hid (HBb.out.addEnd (x := (s : Int)) HQ.out HO5.out HG5.out)
        have hgr := HBb.out.grown (i := 2) (v' := .slice ade' (ends.length + 1) cpe') HQ.out (.inr ⟨_, HBb.out.ends⟩) (by decide) HG5.out
        have H85 := hid ((hgr.1 B8 h8l (by omega) (fun e => by have := (own_lt HB.out.ends e).2; have := HB8.out; omega)).trans H8b.out)
        have hz5 : W.heap.size < (w5.setCell ⟨q.C, 2, none⟩ (.slice ade' (ends.length + 1) cpe')).heap.size := by have := hgr.2.2; have := HZb.out; simp; omega
        have HE5 := hid (show ends ++ [(s : Int)] = if q.d.fin.getD s false then ends ++ [(s : Int)] else ends by rw [HFB.out]; rfl)
        rw [show ends.length + 1 = (ends ++ [(s : Int)]).length by simp] at HB5 H85 hz5 ⊢
        clear HBb H8b HFB hfc hg3 c2 q0 q1 q2 HZb h8l hcb hgr HO5 HG5 x1 x2 HII HZI
        obtain ⟨ends5, hends5⟩ : ∃ ends5, ends5 = ends ++ [(s : Int)] := ⟨_, rfl⟩
        rw [← hends5] at HB5 H85 hz5 ⊢
        have HE5 := hid (show ends5 = if q.d.fin.getD s false then ends ++ [(s : Int)] else ends from hends5.trans HE5.out)
        clear hends5
        obtain ⟨ade5, hade5⟩ : ∃ a, a = ade' := ⟨_, rfl⟩
        obtain ⟨cpe5, hcpe5⟩ : ∃ a, a = cpe' := ⟨_, rfl⟩
        rw [← hade5, ← hcpe5] at HB5 H85 hz5 ⊢
        generalize w5.setCell ⟨q.C, 2, none⟩ (.slice ade5 ends5.length cpe5) = W5 at *
        clear hade5 hcpe5
      all_goals
        have HCLS := hid (fun (w : World) => classes_any (.slice q.adp q.p.length q.cpp) ⟨_, _, _, rfl⟩ w)
        have hcb5 := lt_of_heap HB5.out.nb
        go_wp2_with (go_at_call 45; refine (HCLS.out _).mono ?_; rintro e w4 ⟨rfl, rfl⟩)
        obtain ⟨B9, hB9⟩ : ∃ B9, B9 = W5.heap.size := ⟨_, rfl⟩
        obtain ⟨WR, hWR⟩ : ∃ WR, WR = (W5.alloc (.cells Tryd.zeroCells85 85)).alloc (.cells #[.slice q.adp q.p.length q.cpp] 56) := ⟨_, rfl⟩
        have HBR := hid (show Below W5.heap.size W5 WR from hWR ▸ ((Below.refl _ _).alloc (Nat.le_refl _) _).alloc (by simp) _)
        have HB6 := hid (HB5.out.below' HBR.out)
        have H8R := hid ((HBR.out.block B8 (lt_of_heap H85.out)).trans H85.out)
        have HARR := hid (show ArrIn WR B9 zeros by
          rw [hWR, hB9]
          refine ((alloc_old (by simp)).trans (heap_alloc_new _ _)).trans ?_
          rw [zArr])
        have HBs := hid (show WR.cell? ⟨B9 + 1, 0, none⟩ = some (.slice q.adp q.p.length q.cpp) by
          rw [hWR, hB9]
          have := newB W5 (.cells Tryd.zeroCells85 85) (.cells #[.slice q.adp q.p.length q.cpp] 56)
          exact cell_blk this rfl)
        have HZR := hid (show WR.heap.size = B9 + 2 by rw [hWR, hB9]; simp)
        have h8l := lt_of_heap H85.out
        rw [← hB9] at h8l hcb5 HBR hz5
        simp only [← hB9]
        rw [← hWR]
        have HB9 := hid hB9
        clear hWR hB9 H85 HCLS
        have HLO := hid (fun g (hg : q.w.heap.size + 2 ≤ g ∧ g < q.S) => (show g < WR.heap.size by have := hg.2; have := HZR.out; omega))
        refine (wpIn_wide (n := 5)).1 (wpIn_rangeFunc_ownH (F := Fence.wide) (n := 5) rfl (by decide) (gf := 79) (lb := #[.pointer (some ⟨B9 + 1, 0, none⟩)]) rfl trivial (enters_of Tryd.func79 (by kernel_rfl) rfl)
          (classes_stops (n := 4) (by decide) HBs.out HB6.out.sets HLO.out) (fun h1 h2 g hg => (h2 g hg).trans (h1 g hg)) (fun W l o o' hl _ _ _ g hg => World.putObj_heap_other (by have := HLO.out g hg; omega)) (Below.refl _ _) (fun _ => rfl)
          (BMid q WR row B9) (fun _ _ _ => False) BMid.own (fun _ _ _ _ _ h _ _ => h.elim)
          ⟨Turn.refl _ _, HARR.out⟩
          (fun x a' W => ∃ Bx u', WR.heap.size ≤ Bx ∧ W.heap[Bx]? = some (.cells (q.p[x.1]'x.2).cs 65 (0, 0)) ∧ a' = { tmps := frmKB q u' s B8 B9 Bx (x.1 : Int), defers := [] })
          (fun x a' _ X Y r hs hg hr => by
            obtain ⟨Bx, u', e1, e2, e3⟩ := hs
            exact ⟨Bx, u', e1, (hg.block _ (lt_of_heap e2) (fun e => by
              obtain ⟨_, o, h2, h3⟩ := hr _ e.symm
              rw [e2] at h2; cases h2; cases h3)).trans e2, e3⟩)
          ?assign ?body ?done ?stop)
        case assign =>
          rintro l pre x W K hI hK
          have hzW := hI.turn.size
          gi_wp2
          refine hK _ _ ((KeepsOthers.alloc _ _).from _) (fun g hg => alloc_old (by have := HLO.out g hg; omega)) (BMid.own _ _ _ none hI (World.grownBy_alloc _ _ _) (fun r e => by cases e)) ?_
          exact axK_mk hzW (heap_alloc_new _ _) rfl
        case stop =>
          rintro D c pre W1 hD hpre hbad hK
          exact hbad.elim
        case body =>
          rintro l pre x a' W3 hl ⟨r, hr⟩ hmid ⟨Bx, u', hBx, hbx, rfl⟩ hlt
          have hzW := hmid.turn.size
          have hxr : x.1 < row.length := by rw [HRL.out.1]; exact x.2
          obtain ⟨gr, offr, hgr, hgrl, hxc⟩ := ints_at HRI.out hxr
          subst hgr
          have hrz := HRL.out.2 _ (List.getElem_mem hxr)
          obtain ⟨z, hzr⟩ := Int.eq_ofNat_of_zero_le hrz.1
          have hz4' : z < 1024 := by omega
          have hgd : row.getD x.1 0 = (z : Int) := by rw [List.getD_eq_getElem?_getD, List.getElem?_eq_getElem hxr]; exact hzr
          have h83 : W3.heap[B8]? = some (.cells #[.slice (some ⟨gr, offr, none⟩) row.length cpr] 22 (0, 0)) := (hmid.turn.block B8 (by have := HZR.out; omega) (by omega)).trans H8R.out
          have hx3 : W3.cell? ⟨gr, offr + x.1, none⟩ = some (.int .i64 (z : Int)) := (cell_heap ((hmid.turn.block gr (by have := HB6.out.below.size; omega) (by omega)).trans (HB6.out.below.block gr hgrl))).trans (by rw [hxc, hzr])
          have HMT := hid hmid.turn
          have HARR3 := hid hmid.arr
          have HAP := hid (arrF_append row q.p pre [x] zeros)
          obtain ⟨by_, hby⟩ : ∃ l, l = arrF row q.p pre zeros := ⟨_, rfl⟩
          have hz4 : z < by_.length := by rw [hby, arrF_len]; simp [zeros]; exact hz4'
          rw [← hby] at HARR3 HAP
          obtain ⟨se, hse⟩ : ∃ se, se = q.p[x.1]'x.2 := ⟨_, rfl⟩
          rw [← hse] at hbx
          have HAP2 := hid (show arrF row q.p (pre ++ [x]) zeros = by_.set z (anyS by_[z] se) by
            rw [HAP.out, arrF, arrF, hgd, Int.toNat_natCast, List.getD_eq_getElem?_getD, List.getElem?_eq_getElem hz4, hse]; rfl)
          have HS := hid (show (fun W : World => W.heap[B8]? = some (.cells #[.slice (some ⟨gr, offr, none⟩) row.length cpr] 22 (0, 0)) ∧ W.cell? ⟨gr, offr + x.1, none⟩ = some (.int .i64 (z : Int)) ∧ ArrIn W B9 by_ ∧ W.heap[Bx]? = some (.cells se.cs 65 (0, 0))) W3.drew from ⟨h83, hx3, HARR3.out, hbx⟩)
          have HZ4 := hid hz4
          have hB9w : B9 < W3.heap.size := lt_of_heap HARR3.out
          have hB8w3 := lt_of_heap h83
          have hBxw := lt_of_heap hbx
          have hgrw : gr < W3.heap.size := World.block_lt_of_cell? _ _ hx3
          have hlen4 : by_.length = 1024 := by rw [hby, arrF_len]; simp [zeros]
          have HL4 := hid hlen4
          clear hmid hby hse hgd hzr hrz hx3 h83 hxc hr HAP hbx hlen4
          dsimp only [frmKB]
          gi_wp2_with fail
          refine region_round (k := 13) (S := (fun W : World => W.heap[B8]? = some (.cells #[.slice (some ⟨gr, offr, none⟩) row.length cpr] 22 (0, 0)) ∧ W.cell? ⟨gr, offr + x.1, none⟩ = some (.int .i64 (z : Int)) ∧ ArrIn W B9 by_ ∧ W.heap[Bx]? = some (.cells se.cs 65 (0, 0)))) (by kernel_rfl) (by kernel_rfl) (fun ⟨_, _, h⟩ => h) ?_
          refine Till.take (i := 0) (v := .slice (some ⟨gr, offr, none⟩) row.length cpr) rfl (by kernel_rfl) (fun _ _ _ h => h) (Or.inl ⟨by rfl, fun w hS => by have k0 := cell_blk (i := 0) hS.1 rfl; go_simp⟩) HS.out ?_
          simp only [Act.put, List.getElem_toArray, List.getElem_cons_zero, List.setIfInBounds_toArray, List.set_cons_zero, List.set_cons_succ]
          refine Till.take (i := 1) (v := .int .i64 (x.1 : Int)) rfl (by kernel_rfl) (fun _ _ _ h => h) (Or.inl ⟨by rfl, fun w hS => by go_simp⟩) HS.out ?_
          simp only [Act.put, List.getElem_toArray, List.getElem_cons_zero, List.getElem_cons_succ, List.setIfInBounds_toArray, List.set_cons_zero, List.set_cons_succ]
          refine Till.take (i := 2) (v := .pointer (some ⟨gr, offr + x.1, none⟩)) rfl (by kernel_rfl) (fun _ _ _ h => h) (Or.inl ⟨by rfl, fun w hS => by go_simp⟩) HS.out ?_
          simp only [Act.put, List.getElem_toArray, List.getElem_cons_zero, List.getElem_cons_succ, List.setIfInBounds_toArray, List.set_cons_zero, List.set_cons_succ]
          refine Till.take (i := 3) (v := .int .i64 (z : Int)) rfl (by kernel_rfl) (fun _ _ _ h => h) (Or.inl ⟨by rfl, fun w hS => by have k0 := hS.2.1; go_simp⟩) HS.out ?_
          simp only [Act.put, List.getElem_toArray, List.getElem_cons_zero, List.getElem_cons_succ, List.setIfInBounds_toArray, List.set_cons_zero, List.set_cons_succ]
          refine Till.take (i := 4) (v := .slice (some ⟨gr, offr, none⟩) row.length cpr) rfl (by kernel_rfl) (fun _ _ _ h => h) (Or.inl ⟨by rfl, fun w hS => by have k0 := cell_blk (i := 0) hS.1 rfl; go_simp⟩) HS.out ?_
          simp only [Act.put, List.getElem_toArray, List.getElem_cons_zero, List.getElem_cons_succ, List.setIfInBounds_toArray, List.set_cons_zero, List.set_cons_succ]
          refine Till.take (i := 5) (v := .int .i64 (x.1 : Int)) rfl (by kernel_rfl) (fun _ _ _ h => h) (Or.inl ⟨by rfl, fun w hS => by go_simp⟩) HS.out ?_
          simp only [Act.put, List.getElem_toArray, List.getElem_cons_zero, List.getElem_cons_succ, List.setIfInBounds_toArray, List.set_cons_zero, List.set_cons_succ]
          refine Till.take (i := 6) (v := .pointer (some ⟨gr, offr + x.1, none⟩)) rfl (by kernel_rfl) (fun _ _ _ h => h) (Or.inl ⟨by rfl, fun w hS => by go_simp⟩) HS.out ?_
          simp only [Act.put, List.getElem_toArray, List.getElem_cons_zero, List.getElem_cons_succ, List.setIfInBounds_toArray, List.set_cons_zero, List.set_cons_succ]
          refine Till.take (i := 7) (v := .int .i64 (z : Int)) rfl (by kernel_rfl) (fun _ _ _ h => h) (Or.inl ⟨by rfl, fun w hS => by have k0 := hS.2.1; go_simp⟩) HS.out ?_
          simp only [Act.put, List.getElem_toArray, List.getElem_cons_zero, List.getElem_cons_succ, List.setIfInBounds_toArray, List.set_cons_zero, List.set_cons_succ]
          refine Till.take (i := 8) (v := .pointer (some ⟨B9, z * 4, none⟩)) rfl (by kernel_rfl) (fun _ _ _ h => h) (Or.inl ⟨by rfl, fun w hS => by go_simp; intro h; omega⟩) HS.out ?_
          simp only [Act.put, List.getElem_toArray, List.getElem_cons_zero, List.getElem_cons_succ, List.setIfInBounds_toArray, List.set_cons_zero, List.set_cons_succ]
          refine Till.take (i := 9) (v := .agg by_[z].cs) rfl (by kernel_rfl) (fun _ _ _ h => h) (Or.inl ⟨by rfl, fun w hS => by obtain ⟨k0, k1, k2, k3⟩ := hS.2.2.1.cells hz4; go_simp; exact ⟨rfl, rfl, rfl, rfl⟩⟩) HS.out ?_
          simp only [Act.put, List.getElem_toArray, List.getElem_cons_zero, List.getElem_cons_succ, List.setIfInBounds_toArray, List.set_cons_zero, List.set_cons_succ]
          refine Till.take (i := 10) (v := .agg se.cs) rfl (by kernel_rfl) (fun _ _ _ h => h) (Or.inl ⟨by rfl, fun w hS => by have k0 := cell_blk (i := 0) hS.2.2.2 rfl; have k1 := cell_blk (i := 1) hS.2.2.2 rfl; have k2 := cell_blk (i := 2) hS.2.2.2 rfl; have k3 := cell_blk (i := 3) hS.2.2.2 rfl; go_simp⟩) HS.out ?_
          simp only [Act.put, List.getElem_toArray, List.getElem_cons_zero, List.getElem_cons_succ, List.setIfInBounds_toArray, List.set_cons_zero, List.set_cons_succ]
          refine Till.all (rs := [11]) (by kernel_rfl) (by simp) (Each.cons rfl (fun K hK => ?_) Each.nil)
          go_simp
          refine (any_any by_[z] se _).mono ?_
          rintro e w4 ⟨rfl, hb4'⟩
          have hb4 : Below W3.heap.size W3 w4 := (((Below.refl _ W3).drew).trans hb4')
          have HB4 := hid hb4
          have HS4 := hid (show (fun W : World => W.heap[B8]? = some (.cells #[.slice (some ⟨gr, offr, none⟩) row.length cpr] 22 (0, 0)) ∧ W.cell? ⟨gr, offr + x.1, none⟩ = some (.int .i64 (z : Int)) ∧ ArrIn W B9 by_ ∧ W.heap[Bx]? = some (.cells se.cs 65 (0, 0))) w4 from ⟨(hb4.block _ hB8w3).trans HS.out.1, (cell_heap (hb4.block _ hgrw)).trans HS.out.2.1, (hb4.block _ hB9w).trans HS.out.2.2.1, (hb4.block _ hBxw).trans HS.out.2.2.2⟩)
          refine hK _ _ (fun _ => HS4.out) ?_
          clear hK K hb4 hb4'
          have HA4 := hid (show ArrIn w4 B9 by_ from HS4.out.2.2.1)
          obtain ⟨k0, k1, k2, k3⟩ := HA4.out.cells HZ4.out
          have l0 := free_box (i := z * 4) HA4.out
          have l1 := free_box (i := z * 4 + 1) HA4.out
          have l2 := free_box (i := z * 4 + 2) HA4.out
          have l3 := free_box (i := z * 4 + 3) HA4.out
          have HST := hid (HA4.out.store HZ4.out (anyS by_[z] se))
          generalize anyS by_[z] se = sn at *
          refine Till.take (i := 12) (v := .pointer (some ⟨B9, z * 4, none⟩)) rfl (by kernel_rfl) (fun _ _ _ h => h) (Or.inl ⟨by rfl, fun w hS => by go_simp; intro h; omega⟩) HS4.out ?_
          simp only [Act.put, List.getElem_toArray, List.getElem_cons_zero, List.getElem_cons_succ, List.setIfInBounds_toArray, List.set_cons_zero, List.set_cons_succ]
          refine Till.all (rs := [13]) (by kernel_rfl) (by simp) (Each.cons rfl (fun K hK => ?_) Each.nil)
          go_simp
          refine hK _ _ (fun h => absurd h (by decide)) ?_
          clear hK K
          refine Till.done (by kernel_rfl) ?_ _
          have HTN := hid (show Turn (fun g => g = B9) W3 ((((w4.setCell ⟨B9, z * 4, none⟩ (.int .u64 sn.a)).setCell ⟨B9, z * 4 + 1, none⟩ (.int .u64 sn.b)).setCell ⟨B9, z * 4 + 2, none⟩ (.int .u64 sn.c)).setCell ⟨B9, z * 4 + 3, none⟩ (.int .u64 sn.d)) from
            ((((Turn.of_below (S := fun g => g = B9) HB4.out).setCell rfl _).setCell rfl _).setCell rfl _).setCell rfl _)
          exact ⟨keeps_turn (S := fun g => g = B9) HTN.out (fun g hg => .inl (by have := HZR.out; omega)), fun g hg => HTN.out.block g (by have := HLO.out g hg; omega) (by have := hg.2; omega), ⟨HMT.out.trans HTN.out, by rw [HAP2.out]; exact HST.out⟩⟩
        case done =>
          rintro D zs W1 hD rfl hmid hK
          have hbl1 : Below W5.heap.size W5 W1 := by
            have h1 := hmid.turn.below (B := B9) (by have := HZR.out; omega) (fun g hg => by omega)
            have h2 := HBR.out.trans h1
            have h3 := HB9.out
            rw [h3] at h2
            exact h2
          have hDn : D ∉ Ds := fun hm => by have := lt_of_heap (HB5.out.ds D hm).2; have := HB9.out; have := HZR.out; omega
          have HBD := hid ((HB5.out.below' hbl1).mark (by have := HZR.out; omega) hDn hK)
          have harr := hmid.arr
          rw [arrF_all row q.p HRL.out.1 (fun y hy => ⟨(HRL.out.2 y hy).1, by have := (HRL.out.2 y hy).2; omega⟩)] at harr
          obtain ⟨by_, hby, hbyk, hbyl⟩ : ∃ l : List Se, l = byL row q.p q.p.length ∧ (∀ k (h : k < l.length), l[k] = byM row q.p k) ∧ l.length = 1024 := ⟨_, rfl, fun k h => byL_all HRL.out.1 (by rw [byL_len] at h; exact h), byL_len _ _ _⟩
          rw [← hby] at harr
          have HARR1 := hid harr
          have HBYK := hid hbyk
          have HLEN := hid hbyl
          obtain ⟨ds2, hds2⟩ : ∃ ds2, ds2 = markD D :: ds := ⟨_, rfl⟩
          have HDS2 := hid hds2
          obtain ⟨Ds2, hDs2⟩ : ∃ Ds2, Ds2 = D :: Ds := ⟨_, rfl⟩
          have HDs2 := hid hDs2
          rw [← hDs2] at HBD
          have hxl2 := hxl
          clear hby harr hmid hK hbl1 hDn hDs2 hbyk hbyl
          show Exit.inBlock 2 _ Exit.normal { tmps := _, defers := markD D :: ds } W1
          rw [← hds2]
          clear hds2
          have hsz4 : (flat by_).toArray.size = 4096 := by rw [List.size_toArray, flat_len, HLEN.out]
          have HSZ4 := hid hsz4
          clear hsz4
          obtain ⟨iE, hiE, hiE0, hiE1, hiE2⟩ := info_parts infoEdge
          have HIE := hid hiE
          have HZE := hid (And.intro hiE0 (And.intro hiE1 hiE2))
          have HNO := hid (fun k (h : byM row q.p k = Se.none) => edgesTo_no (s := s) h)
          have HYE := hid (fun k (h : byM row q.p k ≠ Se.none) => edgesTo_yes (s := s) h)
          have HEL := hid (fun k => edgesTo_len s row q.p k)
          have HE0 := hid (show es = es ++ edgesTo s row q.p 0 by simp [edgesTo])
          have HBD0 := hid (show BBase q W1 Ds2 ends5 (es ++ edgesTo s row q.p 0) (.slice ade5 ends5.length cpe5) (.slice adx (es ++ edgesTo s row q.p 0).length cpx) by rw [← HE0.out]; exact HBD.out)
          clear hiE hiE0 hiE1 hiE2
          go_wp2_with (refine wpList_load_blk rfl 85 (.tmp 9) rfl 4096 infoArr _ Tryd.underlying85 rfl B9 rfl 85 _ HARR1.out HSZ4.out ?_)
          go_loopw [70] (fun i wr => ∃ (k : Nat) (adx' : Option Addr) (cpx' : Nat), k ≤ 1024 ∧ i = .int .i64 k ∧ BBase q wr Ds2 ends5 (es ++ edgesTo s row q.p k) (.slice ade5 ends5.length cpe5) (.slice adx' (es ++ edgesTo s row q.p k).length cpx')) (fun i _ => 1024 - (intOf i).toNat)
          case atStart => exact ⟨0, adx, cpx, by omega, rfl, HBD0.out⟩
          case round =>
            obtain ⟨k, adx', cpx', hk, rfl, hbb⟩ := hrel
            have HBK := hid hbb
            clear hbb
            by_cases hlk : k < 1024
            · have hk' : (k : Int) < 1024 := by omega
              have hkl : k < by_.length := by rw [HLEN.out]; exact hlk
              have HKL := hid hkl
              obtain ⟨sk, hsk⟩ : ∃ sk, sk = by_[k] := ⟨_, rfl⟩
              have HSK := hid hsk.symm
              have HBM := hid (show byM row q.p k = sk from (HBYK.out k hkl).symm.trans hsk.symm)
              clear hsk hkl
              have hnbk := lt_of_heap HBK.out.nb
              have hell := HEL.out k
              obtain ⟨esk, hesk⟩ : ∃ l, l = es ++ edgesTo s row q.p k := ⟨_, rfl⟩
              have hesl : esk.length ≤ 66560 := by rw [hesk, List.length_append]; omega
              rw [← hesk] at HBK
              have HESK := hid hesk
              clear hell hesk
              go_upto_region 18 with (refine wpList_index_arr rfl (.tmp 69) (.tmp 70) rfl by_ k HKL.out HLEN.out sk HSK.out (by rfl) (by rfl) ?_)
              obtain ⟨W2, hW2⟩ : ∃ W2, W2 = wr.alloc (.cells sk.cs 65) := ⟨_, rfl⟩
              have HB2k := hid (HBK.out.below' (show Below wr.heap.size wr W2 by rw [hW2]; exact (Below.refl _ _).alloc (Nat.le_refl _) _))
              have HX2 := hid (show W2.heap[wr.heap.size]? = some (.cells sk.cs 65 (0, 0)) by rw [hW2]; exact heap_alloc_new _ _)
              rw [← hW2]
              have HW2s := hid (show W2.heap.size = wr.heap.size + 1 by rw [hW2, World.size_alloc])
              clear hW2
              have k0 := cell_blk (i := 0) HX2.out rfl
              have k1 := cell_blk (i := 1) HX2.out rfl
              have k2 := cell_blk (i := 2) HX2.out rfl
              have k3 := cell_blk (i := 3) HX2.out rfl
              have hz := eqNone sk
              by_cases hsn : sk = Se.none
              · rw [decide_eq_true hsn] at hz
                have HNEW := hid (show es ++ edgesTo s row q.p (k + 1) = esk by rw [HNO.out k (HBM.out.trans hsn), HESK.out])
                clear hsn
                go_wp2_with fail
                go_roundw
                case rel => exact ⟨k + 1, adx', cpx', by omega, by go_num, by rw [HNEW.out]; exact HB2k.out⟩
                case measure => simp [intOf]; omega
              · rw [decide_eq_false hsn] at hz
                have HNEW := hid (show es ++ edgesTo s row q.p (k + 1) = esk ++ [⟨(s : Int), (k : Int), sk⟩] by rw [HYE.out k (by rw [HBM.out]; exact hsn), HESK.out, List.append_assoc, HBM.out])
                clear hsn
                have hnb2 := lt_of_heap HB2k.out.nb
                have c3 := cell_blk (i := 3) HB2k.out.nb rfl
                go_wp2_with (at_builtin; refine wpList_append_own_at _ rfl _ _ 23 rfl q.C 67 iE _ 6 48 Tryd.underlying23 HIE.out HZE.out.1 HZE.out.2.1 HZE.out.2.2 rfl (by decide) (.slice adx' esk.length cpx') esk.length (flatE esk) (by rfl) (HB2k.out.eds.alloc _) ⟨W2.heap.size, 0, none⟩ 1 1 (Edge.ls ⟨(s : Int), (k : Int), sk⟩) (by rfl) rfl (World.news_of_block (heap_alloc_new W2 _)) (by simp [Value.oneCell']) (by unfold maxLen; omega) (by omega) (by simp; omega) ?_; intro xv' w5 ho5 hg5 _ hat5; obtain ⟨adx5, cpx5, rfl⟩ := own_shape ho5; have HO5 := hid ho5; have HG5 := hid hg5; have hd5 := (HB2k.out.grown (i := 3) (v' := undef) HQ.out (.inr ⟨_, HB2k.out.eds⟩) (by decide) hg5).2.1.trans HB2k.out.nb; have x1 := cell_blk (i := 3) hd5 rfl; have x2 := free_box (i := 3) hd5; clear ho5 hg5 hat5 hd5)
                have HBN := hid (HB2k.out.addEdge (x := ⟨(s : Int), (k : Int), sk⟩) HQ.out HO5.out HG5.out)
                have hln : (es ++ edgesTo s row q.p (k + 1)).length = esk.length + 1 := by rw [HNEW.out]; simp
                have HLN := hid hln
                clear hln x1 x2
                go_roundw
                case rel => exact ⟨k + 1, adx5, cpx5, by omega, by go_num, by rw [HLN.out, HNEW.out]; exact HBN.out⟩
                case measure => simp [intOf]; omega
            · obtain rfl : k = 1024 := by omega
              rw [edgesTo_all] at HBK
              have c3 := cell_blk (i := 3) HBK.out.nb rfl
              have HEDL := hid (HEL.out 1024)
              rw [edgesTo_all] at HEDL
              obtain ⟨esn, hesn⟩ : ∃ l, l = es ++ edgesOf s row q.p := ⟨_, rfl⟩
              have hesl : esn.length ≤ 66560 := by rw [hesn, List.length_append]; have := HEDL.out; omega
              rw [← hesn] at HBK c3
              have HESN := hid hesn
              clear hesn
              by_cases hbig : 65536 < esn.length
              · have hbig' : (65536 : Int) < (esn.length : Int) := by omega
                have HBAD := hid (HN.out.bad hsn (by rw [HROW.out, ← HESN.out]; exact hbig))
                go_upto_region 22 with fail
                iterate 4 go_step
                refine wpList_store_same rfl 25 (.tmp 2) (.tmp 91) rfl 4 infoNfa (q.w.heap.size + 1) 25 _ HBK.out.res rfl (by rfl) (by rfl) rfl ?_
                repeat go_step
                have hde : ds2 = Ds2.map markD := by rw [HDS2.out, HDs2.out, ← HDS.out]; rfl
                rw [hde]
                exact (show postM Tryd.prog Tryd.f22 (TextPost q.w (match backFrom q.d q.p q.d.next.length 0 [] [] with | .error e => .error e | .ok (ends, es) => .ok ⟨q.d.next.length, [0], ends, es⟩)) Exit.ret ⟨_, Ds2.map markD⟩ _ from by
                  rw [HBAD.out]
                  exact back_stops HBK.out.res HBK.out.below HBK.out.nodup (fun E hE => (HBK.out.ds E hE).2) (by rfl) (by rfl) (fun E hE => by have := (HBK.out.ds E hE).1; omega))
              · have hbig' : ¬ (65536 : Int) < (esn.length : Int) := by omega
                have HGOOD := hid (HN.out.good hsn (by rw [HROW.out, ← HESN.out]; exact hbig))
                go_wp2_with fail
                have hg := HGOOD.out
                rw [← HE5.out, HROW.out, ← HESN.out] at hg
                have hde : ds2 = Ds2.map markD := by rw [HDS2.out, HDs2.out, ← HDS.out]; rfl
                refine And.intro (BLoop.mk (s := s + 1) (Ds := Ds2) (by rfl) hde ⟨_, _, _, _, HBK.out, hg⟩) ?_
                simp [intOf]
                omega
    · have hs' : ¬ ((s : Int) < (q.d.next.length : Int)) := by omega
      have HLAST := hid (HN.out.last hs)
      have h1 : (W.setRow (q.w.heap.size + 1) #[.int .i64 q.d.next.length, .slice (some ⟨q.S, 0, none⟩) 1 1, .slice ade ends.length cpe, .slice adx es.length cpx]).heap[q.w.heap.size + 1]? = some (.cells #[.int .i64 q.d.next.length, .slice (some ⟨q.S, 0, none⟩) 1 1, .slice ade ends.length cpe, .slice adx es.length cpx] 25 (0, 0)) := setRow_heap HB.out.res _
      have H1 := hid h1
      have HTU := hid (show Turn (fun g => g = q.w.heap.size + 1) W (W.setRow (q.w.heap.size + 1) #[.int .i64 q.d.next.length, .slice (some ⟨q.S, 0, none⟩) 1 1, .slice ade ends.length cpe, .slice adx es.length cpx]) from turn_rowB (S := fun g => g = q.w.heap.size + 1) rfl _)
      clear h1 hs
      go_upto_region 24 with fail
      go_step
      refine wpList_load_blk rfl 25 (.tmp 6) rfl 4 infoNfa _ Tryd.underlying25 rfl q.C rfl 25 _ HB.out.nb rfl ?_
      refine wpList_store_blk rfl 25 (.tmp 2) (.tmp 93) rfl 4 infoNfa (q.w.heap.size + 1) 25 _ HB.out.res rfl #[.int .i64 q.d.next.length, .slice (some ⟨q.S, 0, none⟩) 1 1, .slice ade ends.length cpe, .slice adx es.length cpx] rfl rfl rfl rfl ?_
      generalize W.setRow (q.w.heap.size + 1) #[.int .i64 q.d.next.length, .slice (some ⟨q.S, 0, none⟩) 1 1, .slice ade ends.length cpe, .slice adx es.length cpx] = W5 at *
      iterate 7 go_step
      have hds := HDS.out
      subst hds
      exact (show postM Tryd.prog Tryd.f22 (TextPost q.w (match backFrom q.d q.p q.d.next.length 0 [] [] with | .error e => .error e | .ok (ends, es) => .ok ⟨q.d.next.length, [0], ends, es⟩)) Exit.ret ⟨_, Ds.map markD⟩ _ from by
        rw [HLAST.out]
        exact back_ends HB.out HN.out HQ.out HTU.out H1.out (by rfl) (by rfl))
/-- dfa.Back -/
theorem back_any {F : Nat → Prop} {w : World} {a b c : Value} {d : Dfa} (hd : DfaIn F w a b c d) (hF : ∀ g, F g → g < w.heap.size) :
    Calls Tryd.prog 22 #[.agg #[a, b, c]] w (TextPost w (backM d)) := by
  by_cases hok : dfaOk d = true
  · rcases hx : setsOf d.cls with _ | p
    · have := dfaOk_none hx
      rw [hok] at this
      cases this
    · rw [back_of hok hx]
      exact back_main hd hF hok hx
  · rw [back_bad (by simpa using hok)]
    exact back_err hd hF (by simpa using hok)
end Go.Proofs.YtfjomnhdmkbkiaaDoor.Im
