/-
  The reference's writer: transducer, content, Encode.
-/
import Derived.Test.YtdokeelodcckoaaRg6
import Derived.Deep.RegionHeld3
import Derived.Deep.AppendLies
import Derived.Deep.DeepCutAuto
import Derived.Test.YtdokeelodcckoaaImgJ
import Derived.Test.YtdokeelodcckoaaImgAw
namespace Go.Proofs.Ytdokeelodcckoaa.Im
open Go.RowKit Go.Lib

theorem eArc_le {b : Nat} {z : Int} {o : List B} (h : o.length ≤ 4096) : (eArc b z o).length ≤ 4101 := by
  unfold eArc; simp only [List.length_cons, List.length_append, eNum_len, eText_len]; omega
theorem eArcs_le : ∀ (b : Nat) (zs : List Int) (os : List (List B)), (∀ o ∈ os, o.length ≤ 4096) → (eArcs b zs os).length ≤ zs.length * 4101
  | _, [], _, _ => by simp [eArcs]
  | _, _ :: _, [], _ => by simp [eArcs]
  | b, z :: zs, o :: os, h => by
    have ih := eArcs_le (b + 1) zs os (fun y hy => h y (List.mem_cons_of_mem _ hy))
    have ho := eArc_le (b := b) (z := z) (h o (List.mem_cons_self ..))
    unfold eArcs
    rw [List.length_append, List.length_cons, Nat.add_mul]
    split
    · omega
    · rw [List.length_nil]; omega
theorem arcs_short {n : Nat} {zs : List Int} {os : List (List B)} (h : sRowOk n zs os = true) : zs.length = 256 ∧ os.length = 256 ∧ ∀ o ∈ os, o.length ≤ 4096 := by
  simp only [sRowOk, Bool.and_eq_true, decide_eq_true_eq] at h
  refine ⟨h.1.1, h.1.2, fun o ho => ?_⟩
  obtain ⟨j, hj, rfl⟩ := List.getElem_of_mem ho
  exact (arcsOk_at n j zs os (by omega) hj h.2).2.2
theorem eTail_len {e : Bool} {t : List B} (ht : t.length ≤ 4096) : (eTail e t).length ≤ 4098 := by
  unfold eTail
  split
  · rw [eText_len]; omega
  · exact Nat.zero_le _
theorem eState_le {n : Nat} {x : List Int} {o : List (List B)} {e : Bool} {t : List B} (ht : t.length ≤ 4096) (h : sRowOk n x o = true) : (eBit e ++ eTail e t ++ eNum (arcsIn x) ++ eArcs 0 x o).length ≤ 1053958 := by
  obtain ⟨h1, h2, h3⟩ := arcs_short h
  have h4 := eArcs_le 0 x o h3
  have h5 := eTail_len (e := e) ht
  simp only [List.length_append, eBit_len, eNum_len]
  omega
theorem eSStates_le (q : Sq) (h : SqIs q) : ∀ k, k ≤ q.next.length → (eSStates (q.next.take k) (q.outs.take k) (q.fin.take k) (q.tail.take k)).length ≤ k * 1053958
  | 0, _ => by simp [eSStates]
  | k + 1, hk => by
    have ih := eSStates_le q h k (by omega)
    have h2 : k < q.outs.length := by rw [h.outs]; omega
    have h3 : k < q.fin.length := by rw [h.fin]; omega
    have h4 : k < q.tail.length := by rw [h.tail]; omega
    obtain ⟨a, b, c⟩ := sStatesOk_at _ k _ _ _ _ (by omega) h2 h3 h4 h.rows
    have hs := eState_le (e := q.fin[k]) a c
    rw [eSStates_snoc k _ _ _ _ (by omega) h2 h3 h4, List.length_append, Nat.add_mul]
    omega
theorem eSq_few {q : Sq} (h : sqOk q = true) : (eSq q).length ≤ 1100000000 := by
  have hi := sqOk_is h
  have h1 := eSStates_le q hi q.next.length (Nat.le_refl _)
  rw [List.take_length, show q.outs.take q.next.length = q.outs by rw [← hi.outs, List.take_length], show q.fin.take q.next.length = q.fin by rw [← hi.fin, List.take_length], show q.tail.take q.next.length = q.tail by rw [← hi.tail, List.take_length]] at h1
  have h2 := hi.few
  have h3 := hi.front
  have h4 : q.next.length * 1053958 ≤ 1024 * 1053958 := Nat.mul_le_mul_right _ h2
  unfold eSq
  simp only [List.length_append, eText_len, eNum_len]
  omega

set_option maxRecDepth 100000 in
set_option maxHeartbeats 8000000 in
theorem seqE_any {base : Nat} {w : World} {v : Value} {l : List B} {F : Nat → Prop} {f a b c d : Value} {q : Sq} (hown : BOwn base w v l) (hbs : base ≤ w.heap.size) (hq : SqIn F w f a b c d q) (hF : ∀ g, F g → g < base) (hok : sqOk q = true) (hl : l.length ≤ 100000000000000) :
    Calls Try.prog 44 #[v, .agg #[f, a, b, c, d]] w (Wrote base (l ++ eSq q) w) := by
  have hi := sqOk_is hok
  obtain ⟨i0, hj, hz0, hz1, hz2⟩ := info_parts infoB
  have HJ := hid hj
  have HZ := hid (And.intro hz0 (And.intro hz1 hz2))
  clear hj hz0 hz1 hz2
  obtain ⟨hq0, hq1, hq2, hq3, hq4⟩ := hq
  obtain rfl : f = .string ⟨q.front.toArray⟩ := hq0
  obtain ⟨ad1, cp1, rfl, hm1, hr1⟩ := hq1
  obtain ⟨ad2, cp2, rfl, hm2, hr2⟩ := hq2
  obtain ⟨ad3, cp3, rfl, hm3, hr3⟩ := hq3
  obtain ⟨ad4, cp4, rfl, hm4, hr4⟩ := hq4
  generalize hW0 : w.alloc (.cells #[.string ⟨q.front.toArray⟩, .slice ad1 q.next.length cp1, .slice ad2 q.outs.length cp2, .slice ad3 q.fin.length cp3, .slice ad4 q.tail.length cp4] 50) = W0
  have hDb : W0.heap[w.heap.size]? = some (.cells #[.string ⟨q.front.toArray⟩, .slice ad1 q.next.length cp1, .slice ad2 q.outs.length cp2, .slice ad3 q.fin.length cp3, .slice ad4 q.tail.length cp4] 50 (0, 0)) := by rw [← hW0]; exact heap_alloc_new _ _
  have h0 : BOwn base W0 v l := by rw [← hW0]; exact hown.alloc _
  have hK0 : Kt base w W0 := by rw [← hW0]; exact (Kt.refl base w).alloc hbs _
  have hb0 := hK0.low.size
  have DC := hid (show ∀ W : World, Kt base W0 W → W.cell? ⟨w.heap.size, 0, none⟩ = some (.string ⟨q.front.toArray⟩) ∧ W.cell? ⟨w.heap.size, 1, none⟩ = some (.slice ad1 q.next.length cp1) ∧ W.cell? ⟨w.heap.size, 2, none⟩ = some (.slice ad2 q.outs.length cp2) ∧ W.cell? ⟨w.heap.size, 3, none⟩ = some (.slice ad3 q.fin.length cp3) ∧ W.cell? ⟨w.heap.size, 4, none⟩ = some (.slice ad4 q.tail.length cp4) from fun W hW => scells (hW.row hDb (by decide)))
  have old : ∀ g, F g → g < w.heap.size → W0.heap[g]? = w.heap[g]? := fun g hg _ => hK0.low.block g (hF g hg)
  have HR1 := hid (hr1.frame (F' := F) (w' := W0) (fun _ h => h) old (R' := IntsIn F W0) (fun _ _ _ h => IntsIn.frame h (fun _ h => h) old))
  have HR2 := hid (hr2.frame (F' := F) (w' := W0) (fun _ h => h) old (R' := StrsIn F W0) (fun _ _ _ h => StrsIn.frame h (fun _ h => h) old))
  have HR3 := hid (hr3.frame (F' := F) (w' := W0) (fun _ h => h) old (R' := BoolR) (fun _ _ _ h => h))
  have HR4 := hid (hr4.frame (F' := F) (w' := W0) (fun _ h => h) old (R' := StrR) (fun _ _ _ h => h))
  have KC := hid (show ∀ W : World, Kt base W0 W → ∀ g o, F g → W.cell? ⟨g, o, none⟩ = W0.cell? ⟨g, o, none⟩ from fun W hW g o hg => cell_heap (hW.low.block g (hF g hg)))
  have HI := hid hi
  have H0 := hid h0
  have HW0 := hid hW0
  have hfew : q.next.length ≤ 1024 := hi.few
  have hfront : q.front.length ≤ 4096 := hi.front
  clear hown hi hDb h0 hW0 hr1 hr2 hr3 hr4 old hok
  unfold maxLen at hm1 hm2 hm3 hm4
  obtain ⟨q0, q1, q2, q3, q4⟩ := DC.out W0 (Kt.refl _ _)
  go_enter Try.func44, Try.ntmps44
  go_wp2_with fail
  rw [HW0.out]
  refine (textE_any q.front H0.out (by omega) (by omega)).mono ?_
  rintro e w1 ⟨v1, rfl, hown1, hk1⟩
  have HO1 := hid hown1
  have HK1 := hid hk1
  clear hown1 hk1 q0 q1 q2 q3 q4
  have hs1 := HK1.out.low.size
  obtain ⟨q0, q1, q2, q3, q4⟩ := DC.out w1 HK1.out
  go_wp2_with fail
  refine (numberE_any HO1.out (by omega) (by omega) (by omega) (by rw [List.length_append, eText_len]; omega)).mono ?_
  rintro e w2 ⟨v2, rfl, hown2, hk2⟩
  have HO2 := hid hown2
  have HK2 := hid (HK1.out.trans hk2)
  clear hown2 hk2 q0 q1 q2 q3 q4
  have hlc : (l ++ eText q.front ++ eNum q.next.length).length ≤ 100000000010000 := by simp only [List.length_append, eText_len, eNum_len]; omega
  have EQ := hid (show l ++ eSq q = l ++ eText q.front ++ eNum q.next.length ++ eSStates q.next q.outs q.fin q.tail by unfold eSq; simp)
  generalize l ++ eText q.front ++ eNum q.next.length = lc at *
  go_wp2
  go_loopw [0, 5] (fun v i wr => ∃ k : Nat, k ≤ q.next.length ∧ i = .int .i64 k ∧ BOwn base wr v (lc ++ eSStates (q.next.take k) (q.outs.take k) (q.fin.take k) (q.tail.take k)) ∧ Kt base W0 wr) (fun _ i _ => q.next.length - (intOf i).toNat)
  case atStart => exact ⟨0, Nat.zero_le _, rfl, by simpa [eSStates] using HO2.out, HK2.out⟩
  case round =>
    obtain ⟨k, hk, rfl, hown3, hk3⟩ := hrel
    have HO3 := hid hown3
    have HK3 := hid hk3
    obtain ⟨ad, n3, cap, rfl⟩ := hown3.shape
    clear hown3 hk3
    have hs3 := HK3.out.low.size
    obtain ⟨q0, q1, q2, q3, q4⟩ := DC.out wr HK3.out
    by_cases hlt : k < q.next.length
    · have hk2 : k < q.outs.length := by have := HI.out.outs; omega
      have hk3 : k < q.fin.length := by have := HI.out.fin; omega
      have hk4 : k < q.tail.length := by have := HI.out.tail; omega
      have hlk := eSStates_le q HI.out k hk
      obtain ⟨g, off, rfl, hFg, x, hx, hrow⟩ := HR1.out.at' hlt
      obtain ⟨g2, off2, rfl, hFg2, x2, hx2, hrow2⟩ := HR2.out.at' hk2
      obtain ⟨g3, off3, rfl, hFg3, x3, hx3, rfl⟩ := HR3.out.at' hk3
      obtain ⟨g4, off4, rfl, hFg4, x4, hx4, rfl⟩ := HR4.out.at' hk4
      obtain ⟨adr, cpr, rfl, hmr, hrr⟩ := hrow
      obtain ⟨ado, cpo, rfl, hmo, hro⟩ := hrow2
      unfold maxLen at hmr hmo
      obtain ⟨ht1, ht2, ht3⟩ := sStatesOk_at _ k _ _ _ _ hlt hk2 hk3 hk4 HI.out.rows
      obtain ⟨hl1, hl2, hl3⟩ := arcs_short ht3
      simp only [sRowOk, Bool.and_eq_true, decide_eq_true_eq] at ht3
      have HT2 := hid ht2
      have HT3 := hid ht3
      have HRR := hid hrr
      have HRO := hid hro
      have HL3 := hid hl3
      have hgn : (k : Int) < (q.next.length : Int) := by omega
      have hgf : (k : Int) < (q.fin.length : Int) := by omega
      have hgt : (k : Int) < (q.tail.length : Int) := by omega
      have hgo : (k : Int) < (q.outs.length : Int) := by omega
      have X1 := hid (show ∀ W : World, Kt base W0 W → W.cell? ⟨g, off + k, none⟩ = some (.slice adr q.next[k].length cpr) ∧ W.cell? ⟨g2, off2 + k, none⟩ = some (.slice ado q.outs[k].length cpo) ∧ W.cell? ⟨g3, off3 + k, none⟩ = some (.bool q.fin[k]) ∧ W.cell? ⟨g4, off4 + k, none⟩ = some (.string ⟨q.tail[k].toArray⟩) from fun W hW =>
        ⟨(KC.out W hW _ _ hFg).trans hx, (KC.out W hW _ _ hFg2).trans hx2, (KC.out W hW _ _ hFg3).trans hx3, (KC.out W hW _ _ hFg4).trans hx4⟩)
      have hz1 : q.next[k].length ≤ 256 := by omega
      have hz2 : 256 ≤ q.next[k].length := by omega
      have hz3 : 256 ≤ q.outs[k].length := by omega
      clear ht2 ht3 hrr hro hx hx2 hx3 hx4 hl1 hl2 hl3
      obtain ⟨x1, x2, x3, x4⟩ := X1.out wr HK3.out
      have hle3 : (lc ++ eSStates (q.next.take k) (q.outs.take k) (q.fin.take k) (q.tail.take k)).length ≤ 100001100000000 := by rw [List.length_append]; omega
      go_wp2_with fail
      refine (bitE_any _ HO3.out (by omega) (by omega)).mono ?_
      rintro e w4 ⟨v4, rfl, hown4, hk4'⟩
      have HO4 := hid hown4
      have HK4 := hid (HK3.out.trans hk4')
      obtain ⟨ad4, n4, cap4, rfl⟩ := hown4.shape
      clear hown4 hk4' q0 q1 q2 q3 q4 x1 x2 x3 x4
      have hs4 := HK4.out.low.size
      obtain ⟨q0, q1, q2, q3, q4⟩ := DC.out w4 HK4.out
      obtain ⟨x1, x2, x3, x4⟩ := X1.out w4 HK4.out
      have hle4 : (lc ++ eSStates (q.next.take k) (q.outs.take k) (q.fin.take k) (q.tail.take k) ++ eBit q.fin[k]).length ≤ 100001100000001 := by rw [List.length_append, eBit_len]; omega
      obtain ⟨wo, rfl⟩ : ∃ wo : World, wo = wr := ⟨_, rfl⟩
      go_upto_if 36 with fail
      go_cut [0] (fun v wx => BOwn base wx v (lc ++ eSStates (q.next.take k) (q.outs.take k) (q.fin.take k) (q.tail.take k) ++ eBit q.fin[k] ++ eTail q.fin[k] q.tail[k]) ∧ Kt base W0 wx)
      case first =>
        cases hb : q.fin[k]
        · rw [hb] at x3 HO4
          have HB := hid hb
          clear hb
          go_wp2
          go_meet
          exact ⟨by rw [HB.out]; simpa [eTail] using HO4.out, HK4.out⟩
        · rw [hb] at x3 HO4 hle4
          have HB := hid hb
          clear hb
          go_wp2_with fail
          refine (textE_any q.tail[k] HO4.out (by omega) (by omega)).mono ?_
          rintro e w5 ⟨v5, rfl, hown5, hk5⟩
          have HO5 := hid hown5
          have HK5 := hid (HK4.out.trans hk5)
          clear hown5 hk5
          go_wp2
          go_meet
          exact ⟨by rw [HB.out]; simpa [eTail] using HO5.out, HK5.out⟩
      case rest =>
      obtain ⟨hown5, hk5⟩ := hcut
      have HO5 := hid hown5
      have HK5 := hid hk5
      obtain ⟨ad5, n5, cap5, rfl⟩ := hown5.shape
      clear hown5 hk5 q0 q1 q2 q3 q4 x1 x2 x3 x4 HO4 HK4
      have hs5 := HK5.out.low.size
      have hle5 : (lc ++ eSStates (q.next.take k) (q.outs.take k) (q.fin.take k) (q.tail.take k) ++ eBit q.fin[k] ++ eTail q.fin[k] q.tail[k]).length ≤ 100001200000000 := by
        rw [List.length_append]
        have := eTail_len (e := q.fin[k]) ht1
        omega
      generalize hl5 : lc ++ eSStates (q.next.take k) (q.outs.take k) (q.fin.take k) (q.tail.take k) ++ eBit q.fin[k] ++ eTail q.fin[k] q.tail[k] = l5 at *
      have HL5 := hid hl5
      clear hl5
      obtain ⟨q0, q1, q2, q3, q4⟩ := DC.out wc HK5.out
      obtain ⟨x1, x2, x3, x4⟩ := X1.out wc HK5.out
      go_wp2
      go_loop [6, 7] (fun n i => ∃ j : Nat, j ≤ 256 ∧ i = .int .i64 j ∧ n = .int .i64 (arcsIn (q.next[k].take j))) (fun _ i => 256 - (intOf i).toNat)
      case atStart => exact ⟨0, by omega, rfl, rfl⟩
      case round =>
        obtain ⟨j, hj, rfl, rfl⟩ := hrel
        by_cases hlj0 : j < 256
        · have hlj : j < q.next[k].length := by omega
          have hlj' : (j : Int) < (q.next[k].length : Int) := by omega
          obtain ⟨gr, offr, rfl, hFr, x, hxr, rfl⟩ := HRR.out.at' hlj
          have y1 := (KC.out wc HK5.out gr (offr + j) hFr).trans hxr
          have hsn := hid (arcsIn_snoc _ _ hlj)
          have hle := arcsIn_le (q.next[k].take j)
          rw [List.length_take] at hle
          clear hxr
          by_cases hz : 0 ≤ q.next[k][j]
          · go_wp2
            go_round
            case rel => exact ⟨j + 1, by omega, by go_num, by rw [hsn.out, if_pos hz]; go_num⟩
            case measure => simp [intOf]; omega
          · go_wp2
            go_round
            case rel => exact ⟨j + 1, by omega, by go_num, by rw [hsn.out, if_neg (by omega)]; rfl⟩
            case measure => simp [intOf]; omega
        · obtain rfl : j = 256 := by omega
          have hle := arcsIn_le q.next[k]
          rw [show q.next[k].take 256 = q.next[k] from List.take_of_length_le (by omega)]
          go_wp2_with fail
          refine (numberE_any HO5.out (by omega) (by omega) (by omega) (by omega)).mono ?_
          rintro e w6 ⟨v6, rfl, hown6, hk6⟩
          have HO6 := hid hown6
          have HK6 := hid (HK5.out.trans hk6)
          clear hown6 hk6 q0 q1 q2 q3 q4 x1 x2 x3 x4 hle HO5 HK5
          go_wp2
          go_loopw [0, 8] (fun v i wr => ∃ j : Nat, j ≤ 256 ∧ i = .int .i64 j ∧ BOwn base wr v (l5 ++ eNum (arcsIn q.next[k]) ++ eArcs 0 (q.next[k].take j) (q.outs[k].take j)) ∧ Kt base W0 wr) (fun _ i _ => 256 - (intOf i).toNat)
          case atStart => exact ⟨0, by omega, rfl, by simpa [eArcs] using HO6.out, HK6.out⟩
          case round =>
            obtain ⟨j, hj, rfl, hown7, hk7⟩ := hrel
            have HO7 := hid hown7
            have HK7 := hid hk7
            obtain ⟨ad7, n7, cap7, rfl⟩ := hown7.shape
            clear hown7 hk7
            have hs7 := HK7.out.low.size
            obtain ⟨q0, q1, q2, q3, q4⟩ := DC.out wr HK7.out
            obtain ⟨x1, x2, x3, x4⟩ := X1.out wr HK7.out
            by_cases hlj0 : j < 256
            · have hlj : j < q.next[k].length := by omega
              have hlo : j < q.outs[k].length := by omega
              have hlj' : (j : Int) < (q.next[k].length : Int) := by omega
              have hlo' : (j : Int) < (q.outs[k].length : Int) := by omega
              obtain ⟨gr, offr, rfl, hFr, x, hxr, rfl⟩ := HRR.out.at' hlj
              obtain ⟨go, offo, rfl, hFo, x', hxo, rfl⟩ := HRO.out.at' hlo
              have X2 := hid (show ∀ W : World, Kt base W0 W → W.cell? ⟨gr, offr + j, none⟩ = some (.int .i64 q.next[k][j]) ∧ W.cell? ⟨go, offo + j, none⟩ = some (.string ⟨q.outs[k][j].toArray⟩) from fun W hW => ⟨(KC.out W hW _ _ hFr).trans hxr, (KC.out W hW _ _ hFo).trans hxo⟩)
              obtain ⟨y1, y2⟩ := X2.out wr HK7.out
              have hsn := hid (eArcs_snoc j 0 _ _ hlj hlo)
              have hok := arcsOk_at _ j _ _ hlj hlo HT3.out.2
              have hzb : q.next[k][j] ≤ 9223372036854775807 := by omega
              have hob : q.outs[k][j].length ≤ 4096 := hok.2.2
              clear hxr hxo hok
              by_cases hz : 0 ≤ q.next[k][j]
              · have hle7 : (l5 ++ eNum (arcsIn q.next[k]) ++ eArcs 0 (q.next[k].take j) (q.outs[k].take j)).length ≤ 100001300000000 := by
                  have h := eArcs_le 0 (q.next[k].take j) (q.outs[k].take j) (fun o ho => HL3.out o (List.mem_of_mem_take ho))
                  rw [List.length_take] at h
                  have : min j q.next[k].length ≤ 256 := by omega
                  simp only [List.length_append, eNum_len]
                  omega
                have HNW := hid (show l5 ++ eNum (arcsIn q.next[k]) ++ eArcs 0 (q.next[k].take (j + 1)) (q.outs[k].take (j + 1)) = l5 ++ eNum (arcsIn q.next[k]) ++ eArcs 0 (q.next[k].take j) (q.outs[k].take j) ++ [UInt8.ofNat j] ++ eNum q.next[k][j] ++ eText q.outs[k][j] by
                  rw [hsn.out, if_pos hz]; unfold eArc; simp)
                generalize l5 ++ eNum (arcsIn q.next[k]) ++ eArcs 0 (q.next[k].take j) (q.outs[k].take j) = l7 at *
                go_wp2
                have KS := hid (show ∀ W : World, Kt base W0 W → W.cell? ⟨w.heap.size, 1, none⟩ = some (.slice (some ⟨g, off, none⟩) q.next.length cp1) ∧ W.cell? ⟨w.heap.size, 2, none⟩ = some (.slice (some ⟨g2, off2, none⟩) q.outs.length cp2) ∧ W.cell? ⟨g, off + k, none⟩ = some (.slice (some ⟨gr, offr, none⟩) q.next[k].length cpr) ∧ W.cell? ⟨gr, offr + j, none⟩ = some (.int .i64 q.next[k][j]) ∧ W.cell? ⟨g2, off2 + k, none⟩ = some (.slice (some ⟨go, offo, none⟩) q.outs[k].length cpo) ∧ W.cell? ⟨go, offo + j, none⟩ = some (.string ⟨q.outs[k][j].toArray⟩) from fun W hW =>
                  ⟨(DC.out W hW).2.1, (DC.out W hW).2.2.1, (X1.out W hW).1, (X2.out W hW).1, (X1.out W hW).2.1, (X2.out W hW).2⟩)
                have HOD := hid (show (wr.alloc (.cells #[.int .u8 (j : Int)] 5)).drew.ownsRow base 5 1 (.slice ad7 n7 cap7) l7.length (l7.map bV) from own_drew (HO7.out.own.alloc _))
                have HKD := hid (show Kt base W0 (wr.alloc (.cells #[.int .u8 (j : Int)] 5)).drew from (HK7.out.alloc (by omega) _).drew)
                have hsD : base ≤ (wr.alloc (.cells #[.int .u8 (j : Int)] 5)).drew.heap.size := by show base ≤ (wr.alloc (.cells #[.int .u8 (j : Int)] 5)).heap.size; simp; omega
                have HBJ := hid (show [Value.int .u8 (j : Int)] = [UInt8.ofNat j].map bV by unfold bV; simp; omega)
                have hwj : IntKind.u8.wrap (j : Int) = (j : Int) := IntWalk.u8_in _ (by omega)
                go_region_held3 (fun W => W.cell? ⟨w.heap.size, 1, none⟩ = some (.slice (some ⟨g, off, none⟩) q.next.length cp1) ∧ W.cell? ⟨w.heap.size, 2, none⟩ = some (.slice (some ⟨g2, off2, none⟩) q.outs.length cp2) ∧ W.cell? ⟨g, off + k, none⟩ = some (.slice (some ⟨gr, offr, none⟩) q.next[k].length cpr) ∧ W.cell? ⟨gr, offr + j, none⟩ = some (.int .i64 q.next[k][j]) ∧ W.cell? ⟨g2, off2 + k, none⟩ = some (.slice (some ⟨go, offo, none⟩) q.outs[k].length cpo) ∧ W.cell? ⟨go, offo + j, none⟩ = some (.string ⟨q.outs[k][j].toArray⟩)) (first | exact KS.out _ HK10.out | exact KS.out _ HK9.out | exact KS.out _ HK8.out | exact KS.out _ HK7.out.drew | exact KS.out _ HKD.out) (first | (refine step_append_lies _ (by rfl) _ _ 26 (by rfl) base 5 i0 _ 1 1 Try.underlying26 HJ.out HZ.out.1 HZ.out.2.1 HZ.out.2.2 rfl Nat.one_pos (.slice ad7 n7 cap7) l7.length (l7.map bV) (by rfl) HOD.out ⟨wr.heap.size, 0, none⟩ 1 1 [.int .u8 (j : Int)] (by rfl) (by rfl) (fun j' u hu => row_at_new _ _ _ j' u hu) (one_cells (fun u hu => by simp at hu; exact ⟨_, _, hu⟩)) Nat.one_pos (by unfold maxLen; omega) (by omega) hsD _ rfl ?_; intro g8 cap8 w8 hown8 hgrow8 hat8 hlt8; have HK8 := hid (HKD.out.trans (Kt.grown hsD HOD.out hgrow8)); have HO8 := hid (show BOwn base w8 (.slice (some ⟨g8, 0, none⟩) (l7.length + 1) cap8) (l7 ++ [UInt8.ofNat j]) from BOwn.append (by rw [HBJ.out] at hown8; exact hown8)); have hs8 := HK8.out.low.size; clear hown8 hgrow8 hat8 hlt8) | (go_at_call 27; refine (numberE_any HO8.out (by omega) hz hzb (by rw [List.length_append]; simp; omega)).mono ?_; rintro e w9 ⟨v9, rfl, hown9, hk9⟩; have HO9 := hid hown9; have HK9 := hid (HK8.out.trans hk9); have hs9 := HK9.out.low.size; clear hown9 hk9) | (go_at_call 45; refine (textE_any q.outs[k][j] HO9.out (by omega) (by rw [List.length_append, List.length_append, eNum_len]; simp; omega)).mono ?_; rintro e w10 ⟨v10, rfl, hown10, hk10⟩; have HO10 := hid hown10; have HK10 := hid (HK9.out.trans hk10); clear hown10 hk10))
                all_goals go_wp2
                all_goals go_roundw
                all_goals first
                  | (case rel => exact ⟨j + 1, by omega, by go_num, by rw [HNW.out]; exact HO10.out, HK10.out⟩)
                  | (case measure => simp [intOf]; omega)
              · go_wp2
                go_roundw
                case rel => exact ⟨j + 1, by omega, by go_num, by rw [hsn.out, if_neg (by omega), List.append_nil]; exact HO7.out, HK7.out⟩
                case measure => simp [intOf]; omega
            · obtain rfl : j = 256 := by omega
              have HN8 := hid (show BOwn base wr (.slice ad7 n7 cap7) (lc ++ eSStates (q.next.take (k + 1)) (q.outs.take (k + 1)) (q.fin.take (k + 1)) (q.tail.take (k + 1))) by
                have h := HO7.out
                rw [show q.next[k].take 256 = q.next[k] from List.take_of_length_le (by omega), show q.outs[k].take 256 = q.outs[k] from List.take_of_length_le (by have := HT3.out.1.2; omega)] at h
                rw [eSStates_snoc k _ _ _ _ hlt hk2 hk3 hk4]
                rw [← HL5.out] at h
                simpa using h)
              clear HO7
              go_wp2
              refine And.intro ?_ ?_
              · first
                  | exact ⟨k + 1, by omega, by go_num, HN8.out, HK7.out⟩
                  | (repeat apply Exists.intro
                     refine And.intro ?_ rfl
                     exact ⟨k + 1, by omega, by go_num, HN8.out, HK7.out⟩)
              · simp [intOf]; omega
    · obtain rfl : k = q.next.length := by omega
      have HN := hid (show BOwn base wr (.slice ad n3 cap) (l ++ eSq q) by
        have h := HO3.out
        rw [List.take_length, show q.outs.take q.next.length = q.outs by rw [← HI.out.outs, List.take_length], show q.fin.take q.next.length = q.fin by rw [← HI.out.fin, List.take_length], show q.tail.take q.next.length = q.tail by rw [← HI.out.tail, List.take_length]] at h
        rw [EQ.out]
        exact h)
      clear HO3
      go_wp2
      go_ret
      exact ⟨_, rfl, HN.out, hK0.trans HK3.out⟩
end Go.Proofs.Ytdokeelodcckoaa.Im

namespace Go.Proofs.Ytdokeelodcckoaa.Im
open Go.RowKit Go.Lib

theorem eRule_few {r : Rule} (h : ruleOk r = true) : (eRule r).length ≤ 1200000000 := by
  have hi := ruleOk_is h
  have h1 := eDfa_few hi.of
  have h2 := eDfa_few hi.left
  have h3 := eDfa_few hi.right
  have h4 : (eBy r).length ≤ 1100000000 := by
    unfold eBy
    cases hm : r.mapped
    · have := hi.out hm
      simp only [Bool.false_eq_true, if_false, eText_len]
      omega
    · have := eSq_few (hi.by_ hm)
      simpa using this
  unfold eRule
  simp only [List.length_append, eBit_len]
  omega
theorem eRules_few {l : List Rule} (h : ∀ r ∈ l, ruleOk r = true) : ∀ k, k ≤ l.length → (eRules (l.take k)).length ≤ k * 1200000000
  | 0, _ => by simp [eRules]
  | k + 1, hk => by
    have ih := eRules_few h k (by omega)
    have hr := eRule_few (h _ (List.getElem_mem (show k < l.length by omega)))
    rw [eRules_snoc _ _ (by omega), List.length_append, Nat.add_mul]
    omega
theorem eClasses_few {l : List Cls} (h : ∀ c ∈ l, c.name.length ≤ 31 ∧ dfaOk c.of = true) : ∀ k, k ≤ l.length → (eClasses (l.take k)).length ≤ k * 700000
  | 0, _ => by simp [eClasses]
  | k + 1, hk => by
    have ih := eClasses_few h k (by omega)
    have hr := h _ (List.getElem_mem (show k < l.length by omega))
    have hd := eDfa_few hr.2
    have hn := hr.1
    rw [eClasses_snoc _ _ (by omega), List.length_append, Nat.add_mul]
    unfold eCls
    rw [List.length_append, eText_len]
    omega

set_option maxRecDepth 100000 in
set_option maxHeartbeats 8000000 in
theorem contentE_any {F : Nat → Prop} {w : World} {a b : Value} {x : Img} (hx : ImgIn F w a b x) (hF : ∀ g, F g → g < w.heap.size) (hok : imgOk nameOk x = true) :
    Calls Try.prog 26 #[.agg #[a, b]] w (Wrote w.heap.size (eImg x) w) := by
  obtain ⟨h1, h2⟩ := hx
  obtain ⟨ad1, cp1, rfl, hm1, hr1⟩ := h1
  obtain ⟨ad2, cp2, rfl, hm2, hr2⟩ := h2
  unfold maxLen at hm1 hm2
  have HR1 := hid hr1
  have HR2 := hid hr2
  have HFF := hid hF
  have hrl : x.rules.length ≤ 64 := by have := hok; simp only [imgOk, Bool.and_eq_true, decide_eq_true_eq] at this; exact this.1.1.1
  have hcl : x.classes.length ≤ 64 := by have := hok; simp only [imgOk, Bool.and_eq_true, decide_eq_true_eq] at this; exact this.1.2
  have HRO := hid (show ∀ r ∈ x.rules, ruleOk r = true by have := hok; simp only [imgOk, Bool.and_eq_true, decide_eq_true_eq, List.all_eq_true] at this; exact this.1.1.2)
  have HCO := hid (show ∀ c ∈ x.classes, c.name.length ≤ 31 ∧ dfaOk c.of = true from fun c hc => by
    have h := classesOk_mem x.classes [] (by have := hok; simp only [imgOk, Bool.and_eq_true, decide_eq_true_eq] at this; exact this.2) c hc
    exact ⟨nameOk_len h.1, h.2⟩)
  generalize hW0 : w.alloc (.cells #[.slice ad1 x.rules.length cp1, .slice ad2 x.classes.length cp2] 25) = W0
  have hDb : W0.heap[w.heap.size]? = some (.cells #[.slice ad1 x.rules.length cp1, .slice ad2 x.classes.length cp2] 25 (0, 0)) := by rw [← hW0]; exact heap_alloc_new _ _
  have hK0 : Kt w.heap.size w W0 := by rw [← hW0]; exact (Kt.refl _ w).alloc (Nat.le_refl _) _
  have hb0 := hK0.low.size
  have DC := hid (show ∀ W : World, Kt w.heap.size W0 W → W.cell? ⟨w.heap.size, 0, none⟩ = some (.slice ad1 x.rules.length cp1) ∧ W.cell? ⟨w.heap.size, 1, none⟩ = some (.slice ad2 x.classes.length cp2) from fun W hW => twocells (hW.row hDb (by decide)))
  have LOW := hid (show ∀ W : World, Kt w.heap.size W0 W → ∀ g, F g → W.heap[g]? = w.heap[g]? from fun W hW g hg => (hK0.trans hW).low.block g (hF g hg))
  have HW0 := hid hW0
  clear hW0 hDb hr1 hr2 hF
  obtain ⟨q0, q1⟩ := DC.out W0 (Kt.refl _ _)
  go_enter Try.func26, Try.ntmps26
  go_wp2_with fail
  rw [HW0.out]
  refine (numberE_any (base := w.heap.size) (l := []) ⟨World.ownsRow_nil _ _ _ _⟩ (by omega) (by omega) (by omega) (by simp)).mono ?_
  rintro e w1 ⟨v1, rfl, hown1, hk1⟩
  have HO1 := hid hown1
  have HK1 := hid hk1
  clear hown1 hk1 q0 q1
  go_wp2
  go_loopw [3, 4] (fun v i wr => ∃ k : Nat, k ≤ x.rules.length ∧ i = .int .i64 k ∧ BOwn w.heap.size wr v (eNum x.rules.length ++ eRules (x.rules.take k)) ∧ Kt w.heap.size W0 wr) (fun _ i _ => x.rules.length - (intOf i).toNat)
  case atStart => exact ⟨0, Nat.zero_le _, rfl, by simpa [eRules] using HO1.out, HK1.out⟩
  case round =>
    obtain ⟨k, hk, rfl, hown2, hk2⟩ := hrel
    have HO2 := hid hown2
    have HK2 := hid hk2
    obtain ⟨ad, n2, cap, rfl⟩ := hown2.shape
    clear hown2 hk2
    have hs2 := HK2.out.low.size
    obtain ⟨q0, q1⟩ := DC.out wr HK2.out
    by_cases hlt : k < x.rules.length
    · obtain ⟨g, off, rfl, hFg, hcells⟩ := HR1.out (by intro e; rw [e] at hlt; simp at hlt)
      obtain ⟨cs, hcs, hc, hrule⟩ := hcells k hlt
      have hrok := HRO.out _ (List.getElem_mem hlt)
      have hlk := eRules_few HRO.out k hk
      have hsn := hid (eRules_snoc _ _ hlt)
      have hc' : ∀ j c, cs[j]? = some c → wr.cell? ⟨g, off + k * 16 + j, none⟩ = some c := fun j c h => (cell_heap (LOW.out wr HK2.out g hFg)).trans (hc j c h)
      have hle2 : (eNum x.rules.length ++ eRules (x.rules.take k)).length ≤ 80000000000 := by rw [List.length_append, eNum_len]; omega
      have HNW := hid (show eNum x.rules.length ++ eRules (x.rules.take (k + 1)) = eNum x.rules.length ++ eRules (x.rules.take k) ++ eBit x.rules[k].mapped ++ eDfa x.rules[k].of ++ eDfa x.rules[k].left ++ eDfa x.rules[k].right ++ eBy x.rules[k] by rw [hsn.out]; unfold eRule; simp)
      generalize eNum x.rules.length ++ eRules (x.rules.take k) = l2 at *
      have hkl : (k : Int) < (x.rules.length : Int) := by omega
      generalize x.rules[k] = rx at *
      obtain ⟨rof, rle, rri, rou, rm, rby⟩ := rx
      obtain ⟨x1, p1, y1, q1', z1, s1, x2, p2, y2, q2, z2, s2, x3, p3, y3, q3, z3, s3, x4, p4, y4, q4, z4, s4, v4, t4, hcs2⟩ := hrule.shape
      rw [hcs2] at hc' hrule
      unfold ruleC at hc' hrule
      dsimp only at hc' hrule HNW
      have hri := ruleOk_is hrok
      have k0 := hc' 0 _ rfl
      rw [Nat.add_zero] at k0
      have k1 := hc' 1 _ rfl
      have k2 := hc' 2 _ rfl
      have k3 := hc' 3 _ rfl
      have k4 := hc' 4 _ rfl
      have k5 := hc' 5 _ rfl
      have k6 := hc' 6 _ rfl
      have k7 := hc' 7 _ rfl
      have k8 := hc' 8 _ rfl
      have k9 := hc' 9 _ rfl
      have k10 := hc' 10 _ rfl
      have k11 := hc' 11 _ rfl
      have k12 := hc' 12 _ rfl
      have k13 := hc' 13 _ rfl
      have k14 := hc' 14 _ rfl
      have k15 := hc' 15 _ rfl
      obtain ⟨a1, b1, c1, a2, b2, c2, a3, b3, c3, f4, na, ou, fi, ta, hce, h1, h2, h3, h4⟩ := hrule.is
      cases hce
      simp only at h1 h2 h3 h4
      have FR := hid (show ∀ W : World, Kt w.heap.size W0 W → ∀ g, F g → g < w.heap.size → W.heap[g]? = w.heap[g]? from fun W hW g hg _ => LOW.out W hW g hg)
      have H1 := hid (show ∀ W : World, Kt w.heap.size W0 W → DfaIn F W (.slice x1 rof.cls.length p1) (.slice y1 rof.next.length q1') (.slice z1 rof.fin.length s1) rof from fun W hW => h1.frame (fun _ h => h) (FR.out W hW))
      have H2 := hid (show ∀ W : World, Kt w.heap.size W0 W → DfaIn F W (.slice x2 rle.cls.length p2) (.slice y2 rle.next.length q2) (.slice z2 rle.fin.length s2) rle from fun W hW => h2.frame (fun _ h => h) (FR.out W hW))
      have H3 := hid (show ∀ W : World, Kt w.heap.size W0 W → DfaIn F W (.slice x3 rri.cls.length p3) (.slice y3 rri.next.length q3) (.slice z3 rri.fin.length s3) rri from fun W hW => h3.frame (fun _ h => h) (FR.out W hW))
      have H4 := hid (show ∀ W : World, Kt w.heap.size W0 W → SqIn F W (.string ⟨rby.front.toArray⟩) (.slice x4 rby.next.length p4) (.slice y4 rby.outs.length q4) (.slice z4 rby.fin.length s4) (.slice v4 rby.tail.length t4) rby from fun W hW => h4.frame (fun _ h => h) (FR.out W hW))
      have HRI := hid hri
      clear hcs2 hc' hrule hcells hc hcs h1 h2 h3 h4 hrok hri FR
      go_upto_region 6 with fail
      have HRB := hid (heap_alloc_new wr (.cells #[.slice x1 rof.cls.length p1, .slice y1 rof.next.length q1', .slice z1 rof.fin.length s1, .slice x2 rle.cls.length p2, .slice y2 rle.next.length q2, .slice z2 rle.fin.length s2, .slice x3 rri.cls.length p3, .slice y3 rri.next.length q3, .slice z3 rri.fin.length s3, .string ⟨rou.toArray⟩, .bool rm, .string ⟨rby.front.toArray⟩, .slice x4 rby.next.length p4, .slice y4 rby.outs.length q4, .slice z4 rby.fin.length s4, .slice v4 rby.tail.length t4] 52))
      have HKA := hid (HK2.out.alloc (by omega) (.cells #[.slice x1 rof.cls.length p1, .slice y1 rof.next.length q1', .slice z1 rof.fin.length s1, .slice x2 rle.cls.length p2, .slice y2 rle.next.length q2, .slice z2 rle.fin.length s2, .slice x3 rri.cls.length p3, .slice y3 rri.next.length q3, .slice z3 rri.fin.length s3, .string ⟨rou.toArray⟩, .bool rm, .string ⟨rby.front.toArray⟩, .slice x4 rby.next.length p4, .slice y4 rby.outs.length q4, .slice z4 rby.fin.length s4, .slice v4 rby.tail.length t4] 52))
      have HOA := hid (HO2.out.alloc (.cells #[.slice x1 rof.cls.length p1, .slice y1 rof.next.length q1', .slice z1 rof.fin.length s1, .slice x2 rle.cls.length p2, .slice y2 rle.next.length q2, .slice z2 rle.fin.length s2, .slice x3 rri.cls.length p3, .slice y3 rri.next.length q3, .slice z3 rri.fin.length s3, .string ⟨rou.toArray⟩, .bool rm, .string ⟨rby.front.toArray⟩, .slice x4 rby.next.length p4, .slice y4 rby.outs.length q4, .slice z4 rby.fin.length s4, .slice v4 rby.tail.length t4] 52))
      clear k0 k1 k2 k3 k4 k5 k6 k7 k8 k9 k10 k11 k12 k13 k14 k15 q0 q1
      generalize hRR : wr.heap.size = R at *
      generalize wr.alloc (.cells #[.slice x1 rof.cls.length p1, .slice y1 rof.next.length q1', .slice z1 rof.fin.length s1, .slice x2 rle.cls.length p2, .slice y2 rle.next.length q2, .slice z2 rle.fin.length s2, .slice x3 rri.cls.length p3, .slice y3 rri.next.length q3, .slice z3 rri.fin.length s3, .string ⟨rou.toArray⟩, .bool rm, .string ⟨rby.front.toArray⟩, .slice x4 rby.next.length p4, .slice y4 rby.outs.length q4, .slice z4 rby.fin.length s4, .slice v4 rby.tail.length t4] 52) = wA at *
      have RC := hid (show ∀ W : World, Kt w.heap.size wA W → _ from fun W hW => rcells (hW.row HRB.out (by decide)))
      have KS := hid (show ∀ W : World, Kt w.heap.size wA W → W.cell? ⟨R, 0, none⟩ = some (.slice x1 rof.cls.length p1) ∧ W.cell? ⟨R, 1, none⟩ = some (.slice y1 rof.next.length q1') ∧ W.cell? ⟨R, 2, none⟩ = some (.slice z1 rof.fin.length s1) ∧ W.cell? ⟨R, 3, none⟩ = some (.slice x2 rle.cls.length p2) ∧ W.cell? ⟨R, 4, none⟩ = some (.slice y2 rle.next.length q2) ∧ W.cell? ⟨R, 5, none⟩ = some (.slice z2 rle.fin.length s2) ∧ W.cell? ⟨R, 6, none⟩ = some (.slice x3 rri.cls.length p3) ∧ W.cell? ⟨R, 7, none⟩ = some (.slice y3 rri.next.length q3) ∧ W.cell? ⟨R, 8, none⟩ = some (.slice z3 rri.fin.length s3) ∧ W.cell? ⟨R, 10, none⟩ = some (.bool rm) from fun W hW => by
        obtain ⟨r0, r1, r2, r3, r4, r5, r6, r7, r8, r9, r10, _⟩ := RC.out W hW
        exact ⟨r0, r1, r2, r3, r4, r5, r6, r7, r8, r10⟩)
      have hsA := HKA.out.low.size
      have HOD : Hid (BOwn w.heap.size wA.drew (.slice ad n2 cap) l2) := hid ⟨own_drew HOA.out.own⟩
      have HKD := hid ((Kt.refl w.heap.size wA).drew)
      have hsD : w.heap.size ≤ wA.drew.heap.size := by show w.heap.size ≤ wA.heap.size; omega
      go_region_held3 (fun W => W.cell? ⟨R, 0, none⟩ = some (.slice x1 rof.cls.length p1) ∧ W.cell? ⟨R, 1, none⟩ = some (.slice y1 rof.next.length q1') ∧ W.cell? ⟨R, 2, none⟩ = some (.slice z1 rof.fin.length s1) ∧ W.cell? ⟨R, 3, none⟩ = some (.slice x2 rle.cls.length p2) ∧ W.cell? ⟨R, 4, none⟩ = some (.slice y2 rle.next.length q2) ∧ W.cell? ⟨R, 5, none⟩ = some (.slice z2 rle.fin.length s2) ∧ W.cell? ⟨R, 6, none⟩ = some (.slice x3 rri.cls.length p3) ∧ W.cell? ⟨R, 7, none⟩ = some (.slice y3 rri.next.length q3) ∧ W.cell? ⟨R, 8, none⟩ = some (.slice z3 rri.fin.length s3) ∧ W.cell? ⟨R, 10, none⟩ = some (.bool rm)) (first | exact KS.out _ HK8.out | exact KS.out _ HK7.out | exact KS.out _ HK6.out | exact KS.out _ HK5.out | exact KS.out _ HKD.out) (first | (go_at_call 43; refine (bitE_any rm HOD.out hsD (by omega)).mono ?_; rintro e w5 ⟨v5, rfl, hown5, hk5⟩; have HO5 := hid hown5; have HK5 := hid (HKD.out.trans hk5); have hs5 := HK5.out.low.size; clear hown5 hk5 HOD) | (go_at_call 42; refine (autoE_any HO5.out (by omega) (H1.out _ (HKA.out.trans HK5.out)) HFF.out HRI.out.of (by rw [List.length_append, eBit_len]; omega)).mono ?_; rintro e w6 ⟨v6, rfl, hown6, hk6⟩; have HO6 := hid hown6; have HK6 := hid (HK5.out.trans hk6); have hs6 := HK6.out.low.size; have hl6 := eDfa_few HRI.out.of; clear hown6 hk6 HO5) | (go_at_call 42; refine (autoE_any HO6.out (by omega) (H2.out _ (HKA.out.trans HK6.out)) HFF.out HRI.out.left (by simp only [List.length_append, eBit_len]; omega)).mono ?_; rintro e w7 ⟨v7, rfl, hown7, hk7⟩; have HO7 := hid hown7; have HK7 := hid (HK6.out.trans hk7); have hs7 := HK7.out.low.size; have hl7 := eDfa_few HRI.out.left; clear hown7 hk7 HO6) | (go_at_call 42; refine (autoE_any HO7.out (by omega) (H3.out _ (HKA.out.trans HK7.out)) HFF.out HRI.out.right (by simp only [List.length_append, eBit_len]; omega)).mono ?_; rintro e w8 ⟨v8, rfl, hown8, hk8⟩; have HO8 := hid hown8; have HK8 := hid (HK7.out.trans hk8); have hs8 := HK8.out.low.size; have hl8 := eDfa_few HRI.out.right; clear hown8 hk8 HO7))
      obtain ⟨r0, r1, r2, r3, r4, r5, r6, r7, r8, r9, r10, r11, r12, r13, r14, r15⟩ := RC.out w8 HK8.out
      cases rm
      · go_wp2_with fail
        refine (textE_any rou HO8.out (by omega) (by have := HRI.out.out rfl; simp only [List.length_append, eBit_len] at *; omega)).mono ?_
        rintro e w9 ⟨v9, rfl, hown9, hk9⟩
        have HO9 := hid hown9
        have HK9 := hid (HKA.out.trans (HK8.out.trans hk9))
        clear hown9 hk9
        go_wp2
        go_roundw
        case rel => exact ⟨k + 1, by omega, by go_num, by rw [HNW.out]; simpa [eBy] using HO9.out, HK9.out⟩
        case measure => simp [intOf]; omega
      · go_wp2_with fail
        refine (seqE_any HO8.out (by omega) (H4.out _ (HKA.out.trans HK8.out)) HFF.out (HRI.out.by_ rfl) (by simp only [List.length_append, eBit_len] at *; omega)).mono ?_
        rintro e w9 ⟨v9, rfl, hown9, hk9⟩
        have HO9 := hid hown9
        have HK9 := hid (HKA.out.trans (HK8.out.trans hk9))
        clear hown9 hk9
        go_wp2
        go_roundw
        case rel => exact ⟨k + 1, by omega, by go_num, by rw [HNW.out]; simpa [eBy] using HO9.out, HK9.out⟩
        case measure => simp [intOf]; omega
    · obtain rfl : k = x.rules.length := by omega
      have hlk := eRules_few HRO.out x.rules.length (Nat.le_refl _)
      rw [List.take_length] at hlk
      have HO3 := hid (show BOwn w.heap.size wr (.slice ad n2 cap) (eNum x.rules.length ++ eRules x.rules) by have h := HO2.out; rw [List.take_length] at h; exact h)
      have hle3 : (eNum x.rules.length ++ eRules x.rules).length ≤ 80000000000 := by rw [List.length_append, eNum_len]; omega
      have EQ := hid (show eImg x = eNum x.rules.length ++ eRules x.rules ++ eNum x.classes.length ++ eClasses x.classes from rfl)
      clear HO2 hlk
      generalize eNum x.rules.length ++ eRules x.rules = l3 at *
      go_wp2_with fail
      refine (numberE_any HO3.out (by omega) (by omega) (by omega) (by omega)).mono ?_
      rintro e w4 ⟨v4, rfl, hown4, hk4⟩
      have HO4 := hid hown4
      have HK4 := hid (HK2.out.trans hk4)
      clear hown4 hk4 q0 q1 HO3
      obtain ⟨wo, rfl⟩ : ∃ wo : World, wo = wr := ⟨_, rfl⟩
      go_wp2
      go_loopw [3, 6] (fun v i wr => ∃ k : Nat, k ≤ x.classes.length ∧ i = .int .i64 k ∧ BOwn w.heap.size wr v (l3 ++ eNum x.classes.length ++ eClasses (x.classes.take k)) ∧ Kt w.heap.size W0 wr) (fun _ i _ => x.classes.length - (intOf i).toNat)
      case atStart => exact ⟨0, Nat.zero_le _, rfl, by simpa [eClasses] using HO4.out, HK4.out⟩
      case round =>
        obtain ⟨k, hk, rfl, hown5, hk5⟩ := hrel
        have HO5 := hid hown5
        have HK5 := hid hk5
        obtain ⟨ad5, n5, cap5, rfl⟩ := hown5.shape
        clear hown5 hk5
        have hs5 := HK5.out.low.size
        obtain ⟨q0, q1⟩ := DC.out wr HK5.out
        by_cases hlt : k < x.classes.length
        · obtain ⟨g, off, rfl, hFg, hcells⟩ := HR2.out (by intro e; rw [e] at hlt; simp at hlt)
          obtain ⟨cs, hcs, hc, x', p, y, q, z, s, rfl, hd⟩ := hcells k hlt
          have hcok := HCO.out _ (List.getElem_mem hlt)
          have hlk := eClasses_few HCO.out k hk
          have hsn := hid (eClasses_snoc _ _ hlt)
          have hle5 : (l3 ++ eNum x.classes.length ++ eClasses (x.classes.take k)).length ≤ 90000000000 := by rw [List.length_append, List.length_append, eNum_len]; omega
          have HNW := hid (show l3 ++ eNum x.classes.length ++ eClasses (x.classes.take (k + 1)) = l3 ++ eNum x.classes.length ++ eClasses (x.classes.take k) ++ eText x.classes[k].name ++ eDfa x.classes[k].of by rw [hsn.out]; unfold eCls; simp)
          generalize l3 ++ eNum x.classes.length ++ eClasses (x.classes.take k) = l5 at *
          have hkl : (k : Int) < (x.classes.length : Int) := by omega
          have KS := hid (show ∀ W : World, Kt w.heap.size W0 W → W.cell? ⟨w.heap.size, 1, none⟩ = some (.slice (some ⟨g, off, none⟩) x.classes.length cp2) ∧ W.cell? ⟨g, off + k * 4, none⟩ = some (.string ⟨x.classes[k].name.toArray⟩) ∧ W.cell? ⟨g, off + k * 4 + 1, none⟩ = some (.slice x' x.classes[k].of.cls.length p) ∧ W.cell? ⟨g, off + k * 4 + 2, none⟩ = some (.slice y x.classes[k].of.next.length q) ∧ W.cell? ⟨g, off + k * 4 + 3, none⟩ = some (.slice z x.classes[k].of.fin.length s) from fun W hW =>
            ⟨(DC.out W hW).2, (cell_heap (LOW.out W hW g hFg)).trans (hc 0 _ rfl), (cell_heap (LOW.out W hW g hFg)).trans (hc 1 _ rfl), (cell_heap (LOW.out W hW g hFg)).trans (hc 2 _ rfl), (cell_heap (LOW.out W hW g hFg)).trans (hc 3 _ rfl)⟩)
          have HD := hid (show ∀ W : World, Kt w.heap.size W0 W → DfaIn F W (.slice x' x.classes[k].of.cls.length p) (.slice y x.classes[k].of.next.length q) (.slice z x.classes[k].of.fin.length s) x.classes[k].of from fun W hW => hd.frame (fun _ h => h) (fun g hg _ => LOW.out W hW g hg))
          have hc1 : x.classes[k].name.length ≤ 31 := hcok.1
          have HC2 := hid hcok.2
          clear hcells hc hd hcok hcs
          have HOD : Hid (BOwn w.heap.size wr.drew (.slice ad5 n5 cap5) l5) := hid ⟨own_drew HO5.out.own⟩
          have HKD := hid HK5.out.drew
          have hsD : w.heap.size ≤ wr.drew.heap.size := by show w.heap.size ≤ wr.heap.size; omega
          go_upto_region 14 with fail
          go_region_held3 (fun W => W.cell? ⟨w.heap.size, 1, none⟩ = some (.slice (some ⟨g, off, none⟩) x.classes.length cp2) ∧ W.cell? ⟨g, off + k * 4, none⟩ = some (.string ⟨x.classes[k].name.toArray⟩) ∧ W.cell? ⟨g, off + k * 4 + 1, none⟩ = some (.slice x' x.classes[k].of.cls.length p) ∧ W.cell? ⟨g, off + k * 4 + 2, none⟩ = some (.slice y x.classes[k].of.next.length q) ∧ W.cell? ⟨g, off + k * 4 + 3, none⟩ = some (.slice z x.classes[k].of.fin.length s)) (first | exact KS.out _ HK7.out | exact KS.out _ HK6.out | exact KS.out _ HKD.out) (first | (go_at_call 45; refine (textE_any x.classes[k].name HOD.out hsD (by omega)).mono ?_; rintro e w6 ⟨v6, rfl, hown6, hk6⟩; have HO6 := hid hown6; have HK6 := hid (HKD.out.trans hk6); have hs6 := HK6.out.low.size; clear hown6 hk6 HOD) | (go_at_call 42; refine (autoE_any HO6.out (by omega) (HD.out _ HK6.out) HFF.out HC2.out (by rw [List.length_append, eText_len]; omega)).mono ?_; rintro e w7 ⟨v7, rfl, hown7, hk7⟩; have HO7 := hid hown7; have HK7 := hid (HK6.out.trans hk7); clear hown7 hk7 HO6))
          go_wp2
          go_roundw
          case rel => exact ⟨k + 1, by omega, by go_num, by rw [HNW.out]; exact HO7.out, HK7.out⟩
          case measure => simp [intOf]; omega
        · obtain rfl : k = x.classes.length := by omega
          have HN := hid (show BOwn w.heap.size wr (.slice ad5 n5 cap5) (eImg x) by have h := HO5.out; rw [List.take_length] at h; rw [EQ.out]; exact h)
          clear HO5
          go_wp2
          go_ret
          exact ⟨_, rfl, HN.out, hK0.trans HK5.out⟩
end Go.Proofs.Ytdokeelodcckoaa.Im

namespace Go.Proofs.Ytdokeelodcckoaa.Im
open Go.RowKit Go.Lib

theorem head_ref (c : List B) : [87, 72, 1] ++ eNum ((c.length : Int) / 65536) ++ eNum ((c.length : Int) % 65536) ++ eNum (sumL c) = headL c := by
  have e : ∀ {m n : Nat}, m % 256 = n % 256 → UInt8.ofNat m = UInt8.ofNat n := fun {m n} h => UInt8.toNat_inj.1 (by rw [byte_of, byte_of, h])
  have h1 : ((c.length : Int) / 65536).toNat = c.length / 65536 := by omega
  have h2 : ((c.length : Int) % 65536).toNat = c.length % 65536 := by omega
  unfold headL eNum
  rw [h1, h2, Int.toNat_natCast]
  simp only [List.cons_append, List.nil_append]
  rw [e (show c.length / 65536 / 256 % 256 = c.length / 16777216 % 256 by omega), e (show c.length % 65536 / 256 % 256 = c.length / 256 % 256 by omega), e (show c.length % 65536 % 256 = c.length % 256 by omega)]
theorem three_cells : ([87, 72, 1] : List B).map bV = (#[.int .u8 87, .int .u8 72, .int .u8 1] : Array Value).toList := rfl

set_option maxRecDepth 100000 in
set_option maxHeartbeats 4000000 in
theorem encodeR_any {F : Nat → Prop} {w : World} {a b : Value} {x : Img} (hx : ImgIn F w a b x) (hF : ∀ g, F g → g < w.heap.size) (hlens : ImgLens x) (hsum : ImgSum x) :
    Calls Try.prog 10 #[.agg #[a, b]] w (EncPost w x) := by
  have HX := hid hx
  obtain ⟨h1, h2⟩ := hx
  obtain ⟨ad1, cp1, rfl, hm1, hr1⟩ := h1
  obtain ⟨ad2, cp2, rfl, hm2, hr2⟩ := h2
  clear hr1 hr2
  obtain ⟨i0, hj, hz0, hz1, hz2⟩ := info_parts infoB
  have HJ := hid hj
  have HZ := hid (And.intro hz0 (And.intro hz1 hz2))
  clear hj hz0 hz1 hz2
  generalize hW0 : w.alloc (.cells #[.slice ad1 x.rules.length cp1, .slice ad2 x.classes.length cp2] 25) = W0
  have hDB : W0.heap[w.heap.size]? = some (.cells #[.slice ad1 x.rules.length cp1, .slice ad2 x.classes.length cp2] 25 (0, 0)) := by rw [← hW0]; exact heap_alloc_new _ _
  have hz0 : W0.heap.size = w.heap.size + 1 := by rw [← hW0]; simp
  have hB0 : Below w.heap.size w W0 := by rw [← hW0]; exact (Below.refl _ _).alloc (Nat.le_refl _) _
  obtain ⟨r0, r1⟩ := twocells hDB
  have HDB := hid hDB
  have HW0 := hid hW0
  have HFF := hid hF
  have HL := hid hlens
  have HS := hid hsum
  clear hW0 hDB hF hlens hsum
  go_enter Try.func10, Try.ntmps10
  go_wp2_with fail
  rw [HW0.out]
  refine (imgRight_any (HX.out.frame (F' := F) (fun _ h => h) (fun g _ hl => hB0.block g hl)) (fun g hg => by have := HFF.out g hg; omega) HL.out HS.out).mono ?_
  rintro e w1 ⟨rfl, hb1⟩
  have hB1 := hB0.trans (hb1.mono (by omega))
  clear r0 r1
  cases hz : imgOk nameOk x
  · have HE := hid (enc_arg hz)
    clear hz
    go_wp2
    go_ret2
    refine ⟨hB1, .slice none 0 0, ?_, ?_⟩
    · rw [HE.out]; rfl
    · rw [HE.out]; exact nil_bytes _ _
  have HZI := hid hz
  clear hz
  have hs1 := hB1.size
  obtain ⟨r0, r1⟩ := twocells ((hb1.block w.heap.size (by omega)).trans HDB.out)
  go_wp2_with fail
  refine (contentE_any (HX.out.frame (F' := F) (fun _ h => h) (fun g _ hl => hB1.block g hl)) (fun g hg => Nat.lt_of_lt_of_le (HFF.out g hg) hs1) HZI.out).mono ?_
  rintro e w2 ⟨v2, rfl, hown2, hk2⟩
  have HK2 := hid hk2
  have hB2 := hB1.trans (hk2.low.mono hs1)
  clear r0 r1 hk2
  generalize hc : eImg x = c at hown2
  have h4 : 4 ≤ c.length := by rw [← hc]; simp [eImg, eNum]; omega
  have HC := hid hc
  clear hc
  obtain ⟨adc, capc, hv2⟩ := own_shape hown2.own
  subst hv2
  have HO2 := hid hown2.own
  clear hown2
  have hs2 := HK2.out.low.size
  by_cases hl : 1048576 < c.length
  · have HE := hid (enc_long HZI.out (by rw [HC.out]; unfold most; omega))
    have hl' : (1048576 : Int) < c.length := by omega
    clear hl
    go_wp2
    go_ret2
    refine ⟨hB2, .slice none 0 0, ?_, ?_⟩
    · rw [HE.out]; rfl
    · rw [HE.out]; exact nil_bytes _ _
  have HE := hid (show encode nameOk x = (headL c ++ c, 0) by rw [enc_yes HZI.out (by rw [HC.out]; unfold most; omega), HC.out])
  have hl' : ¬ (1048576 : Int) < c.length := by omega
  have hl1 : (c.length : Int) ≤ 1048576 := by omega
  have hl2 : c.length ≤ 1048576 := by omega
  clear hl
  obtain ⟨gc, capc', hvc, hgc, hcc, hcap⟩ : ∃ gc cap', (Value.slice adc c.length capc) = .slice (some ⟨gc, 0, none⟩) c.length cap' ∧ w1.heap.size ≤ gc ∧ gc < w2.heap.size ∧ (∀ j u, (c.map bV)[j]? = some u → w2.cell? ((⟨gc, 0, none⟩ : Addr).add j) = some u) := by
    rcases HO2.out.2 with ⟨hv, h0⟩ | ⟨g, cap, cur, hv, hb, hg, _⟩
    · exact absurd h0 (by omega)
    · have h := HO2.out
      rw [hv] at h
      exact ⟨g, cap, hv, hb, lt_of_heap hg, h.cells (g := g) rfl⟩
  cases hvc
  have CC := hid (show ∀ W : World, Below w2.heap.size w2 W → ∀ j u, (c.map bV)[j]? = some u → W.cell? ((⟨gc, 0, none⟩ : Addr).add j) = some u from fun W hW j u hu => by
    have h := hcap j u hu
    rw [Addr.add_lit] at h ⊢
    exact (cell_heap (hW.block gc hcc)).trans h)
  have CB := hid (show ∀ W : World, Below w2.heap.size w2 W → BytesIn (fun g => g < w2.heap.size) W (.slice (some ⟨gc, 0, none⟩) c.length capc) c from fun W hW => ((own_bytesC HO2.out).lt.frame (F' := fun g => g < w2.heap.size) (w' := W) (fun _ h => h.2) (fun g hg _ => hW.block g hg.2)).bytes)
  clear hcap
  go_wp2_with fail
  have HO3 : Hid (BOwn w2.heap.size (w2.alloc (.cells #[.int .u8 87, .int .u8 72, .int .u8 1] 5)) (.slice (some ⟨w2.heap.size, 0, none⟩) 3 3) [87, 72, 1]) := hid ⟨own_lit w2 #[.int .u8 87, .int .u8 72, .int .u8 1] 5 w2.heap.size 3 rfl (Nat.le_refl _) (by unfold maxLen; omega)⟩
  have HB3 := hid ((Below.refl w2.heap.size w2).alloc (Nat.le_refl _) (.cells #[.int .u8 87, .int .u8 72, .int .u8 1] 5))
  have hs3 := HB3.out.size
  refine (numberE_any HO3.out hs3 (by omega) (by omega) (by simp)).mono ?_
  rintro e w4 ⟨v4, rfl, hown4, hk4⟩
  have HO4 := hid hown4
  have HB4 := hid (HB3.out.trans hk4.low)
  have hs4 := HB4.out.size
  clear hown4 hk4 HO3
  go_wp2_with fail
  refine (numberE_any HO4.out hs4 (by omega) (by omega) (by simp [eNum_len])).mono ?_
  rintro e w5 ⟨v5, rfl, hown5, hk5⟩
  have HO5 := hid hown5
  have HB5 := hid (HB4.out.trans hk5.low)
  have hs5 := HB5.out.size
  clear hown5 hk5 HO4
  go_wp2_with fail
  refine (sumR_any (CB.out w5 HB5.out)).mono ?_
  rintro e w6 ⟨rfl, rfl⟩
  have hsl := sumL_lt c
  go_wp2_with fail
  refine (numberE_any HO5.out hs5 (by omega) (by omega) (by simp [eNum_len])).mono ?_
  rw [head_ref c]
  rintro e w6 ⟨v6, rfl, hown6, hk6⟩
  have HO6 := hid hown6.own
  have HB6 := hid (HB5.out.trans hk6.low)
  have hs6 := HB6.out.size
  clear hown6 hk6 HO5
  have hh9 : (headL c).length = 9 := headL_len c
  have HH9 := hid hh9
  clear hh9
  go_wp2_with (at_builtin; refine wpList_append_own _ rfl _ _ 26 rfl w2.heap.size 5 i0 _ 1 1 Try.underlying26 HJ.out HZ.out.1 HZ.out.2.1 HZ.out.2.2 rfl (by decide) _ _ _ rfl HO6.out ⟨gc, 0, none⟩ c.length capc (c.map bV) rfl (by simp) (CC.out w6 HB6.out) (fun u hu => by obtain ⟨y, _, rfl⟩ := List.mem_map.1 hu; rfl) (by rw [HH9.out]; unfold maxLen; omega) (by rw [HH9.out]; omega) hs6 ?_; intro v7 w7 hown7 hgrow7 _; have HO7 := hid hown7; have HG7 := hid hgrow7; clear hown7 hgrow7)
  go_ret2
  have hK7 := Kt.grown hs6 HO6.out HG7.out
  refine ⟨hB2.trans ((HB6.out.trans hK7.low).mono hB2.size), v7, by rw [HE.out]; rfl, ?_⟩
  rw [HE.out]
  have h := HO7.out
  rw [← List.map_append, ← List.length_append] at h
  exact (own_bytesC h).frame (fun g hg => Nat.le_trans hB2.size hg) (fun _ _ _ => rfl)
end Go.Proofs.Ytdokeelodcckoaa.Im
