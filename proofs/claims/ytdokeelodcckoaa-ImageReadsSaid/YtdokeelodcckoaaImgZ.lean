/-
  The contract of the writer's method seq.
-/
import Derived.Test.YtdokeelodcckoaaImgY
import Derived.Deep.DeepCutAuto
namespace Go.Proofs.Ytdokeelodcckoaa.Im
open Go.RowKit Go.Lib

theorem textL_any {P : Nat} {w : World} {l : List B} (x : List B) (hs : x.length ≤ 65535) (h : WOwn P w l) :
    Calls Try.prog 23 #[.pointer (some ⟨P, 0, none⟩), .string ⟨x.toArray⟩] w fun e' w' => e' = .returned (.tuple #[]) ∧ WOwn P w' (l ++ eText x) ∧ Upd P w w' :=
  textW_any ⟨x.toArray⟩ (by simpa [ByteArray.size] using hs) h
theorem sStatesOk_at (n : Nat) : ∀ (k : Nat) (xs : List (List Int)) (os : List (List (List B))) (es : List Bool) (ts : List (List B)) (h1 : k < xs.length) (h2 : k < os.length) (h3 : k < es.length) (h4 : k < ts.length), sStatesOk n xs os es ts = true →
    ts[k].length ≤ 4096 ∧ (es[k] = true ∨ ts[k] = []) ∧ sRowOk n xs[k] os[k] = true
  | _, [], _, _, _, h, _, _, _, _ => by simp at h
  | _, _ :: _, [], _, _, _, h, _, _, _ => by simp at h
  | _, _ :: _, _ :: _, [], _, _, _, h, _, _ => by simp at h
  | _, _ :: _, _ :: _, _ :: _, [], _, _, _, h, _ => by simp at h
  | 0, x :: xs, o :: os, e :: es, t :: ts, _, _, _, _, hok => by
    simp only [sStatesOk, Bool.and_eq_true, Bool.or_eq_true, decide_eq_true_eq] at hok
    exact ⟨hok.1.1.1, hok.1.1.2, hok.1.2⟩
  | k + 1, x :: xs, o :: os, e :: es, t :: ts, h1, h2, h3, h4, hok => by
    simp only [sStatesOk, Bool.and_eq_true] at hok
    exact sStatesOk_at n k xs os es ts (by simpa using h1) (by simpa using h2) (by simpa using h3) (by simpa using h4) hok.2
theorem arcsOk_at (n : Nat) : ∀ (k : Nat) (zs : List Int) (os : List (List B)) (h1 : k < zs.length) (h2 : k < os.length), arcsOk n zs os = true → -1 ≤ zs[k] ∧ zs[k] < n ∧ os[k].length ≤ 4096
  | _, [], _, h, _, _ => by simp at h
  | _, _ :: _, [], _, h, _ => by simp at h
  | 0, z :: zs, o :: os, _, _, hok => by
    simp only [arcsOk, arcOk, Bool.and_eq_true, decide_eq_true_eq] at hok
    exact ⟨hok.1.1.1.1, hok.1.1.1.2, hok.1.1.2⟩
  | k + 1, z :: zs, o :: os, h1, h2, hok => by
    simp only [arcsOk, Bool.and_eq_true] at hok
    exact arcsOk_at n k zs os (by simpa using h1) (by simpa using h2) hok.2
theorem arcsIn_snoc (l : List Int) (k : Nat) (h : k < l.length) : arcsIn (l.take (k + 1)) = arcsIn (l.take k) + if 0 ≤ l[k] then 1 else 0 := by
  rw [take_succ' _ _ h]; unfold arcsIn; rw [List.filter_append, List.length_append]
  by_cases hz : 0 ≤ l[k] <;> simp [hz]
theorem eArcs_snoc (k : Nat) : ∀ (b : Nat) (zs : List Int) (os : List (List B)) (h1 : k < zs.length) (h2 : k < os.length), eArcs b (zs.take (k + 1)) (os.take (k + 1)) = eArcs b (zs.take k) (os.take k) ++ (if 0 ≤ zs[k] then eArc (b + k) zs[k] os[k] else []) := by
  induction k with
  | zero =>
    intro b zs os h1 h2
    obtain ⟨z, zs, rfl⟩ := List.exists_cons_of_length_pos h1
    obtain ⟨o, os, rfl⟩ := List.exists_cons_of_length_pos h2
    simp [eArcs]
  | succ k ih =>
    intro b zs os h1 h2
    obtain ⟨z, zs, rfl⟩ := List.exists_cons_of_length_pos (Nat.lt_of_le_of_lt (Nat.zero_le _) h1)
    obtain ⟨o, os, rfl⟩ := List.exists_cons_of_length_pos (Nat.lt_of_le_of_lt (Nat.zero_le _) h2)
    have := ih (b + 1) zs os (by simpa using h1) (by simpa using h2)
    simp only [List.take_succ_cons, eArcs, this, List.getElem_cons_succ, List.append_assoc]
    rw [show b + 1 + k = b + (k + 1) by omega]
theorem eSStates_snoc (k : Nat) : ∀ (xs : List (List Int)) (os : List (List (List B))) (es : List Bool) (ts : List (List B)) (h1 : k < xs.length) (h2 : k < os.length) (h3 : k < es.length) (h4 : k < ts.length),
    eSStates (xs.take (k + 1)) (os.take (k + 1)) (es.take (k + 1)) (ts.take (k + 1)) = eSStates (xs.take k) (os.take k) (es.take k) (ts.take k) ++ (eBit es[k] ++ eTail es[k] ts[k] ++ eNum (arcsIn xs[k]) ++ eArcs 0 xs[k] os[k]) := by
  induction k with
  | zero =>
    intro xs os es ts h1 h2 h3 h4
    obtain ⟨x, xs, rfl⟩ := List.exists_cons_of_length_pos h1
    obtain ⟨o, os, rfl⟩ := List.exists_cons_of_length_pos h2
    obtain ⟨e, es, rfl⟩ := List.exists_cons_of_length_pos h3
    obtain ⟨t, ts, rfl⟩ := List.exists_cons_of_length_pos h4
    simp [eSStates]
  | succ k ih =>
    intro xs os es ts h1 h2 h3 h4
    obtain ⟨x, xs, rfl⟩ := List.exists_cons_of_length_pos (Nat.lt_of_le_of_lt (Nat.zero_le _) h1)
    obtain ⟨o, os, rfl⟩ := List.exists_cons_of_length_pos (Nat.lt_of_le_of_lt (Nat.zero_le _) h2)
    obtain ⟨e, es, rfl⟩ := List.exists_cons_of_length_pos (Nat.lt_of_le_of_lt (Nat.zero_le _) h3)
    obtain ⟨t, ts, rfl⟩ := List.exists_cons_of_length_pos (Nat.lt_of_le_of_lt (Nat.zero_le _) h4)
    have := ih xs os es ts (by simpa using h1) (by simpa using h2) (by simpa using h3) (by simpa using h4)
    simp only [List.take_succ_cons, eSStates, this, List.getElem_cons_succ, List.append_assoc]
/-- the five cells of a box that holds a transducer -/
theorem scells {w : World} {D : Nat} {f a b c d : Value} (h : w.heap[D]? = some (.cells #[f, a, b, c, d] 50 (0, 0))) :
    w.cell? ⟨D, 0, none⟩ = some f ∧ w.cell? ⟨D, 1, none⟩ = some a ∧ w.cell? ⟨D, 2, none⟩ = some b ∧ w.cell? ⟨D, 3, none⟩ = some c ∧ w.cell? ⟨D, 4, none⟩ = some d :=
  ⟨cell_blk h rfl, cell_blk h rfl, cell_blk h rfl, cell_blk h rfl, cell_blk h rfl⟩

set_option maxRecDepth 100000 in
set_option maxHeartbeats 2000000 in
theorem sqW_any {P : Nat} {w : World} {l : List B} {F : Nat → Prop} {f a b c d : Value} {q : Sq} (h : WOwn P w l) (hq : SqIn F w f a b c d q) (hF : ∀ g, F g → g < P) (hok : sqOk q = true) :
    Calls Try.prog 39 #[.pointer (some ⟨P, 0, none⟩), .agg #[f, a, b, c, d]] w fun e w' => e = .returned (.tuple #[]) ∧ WOwn P w' (l ++ eSq q) ∧ Upd P w w' := by
  have hi := sqOk_is hok
  obtain ⟨hq0, hq1, hq2, hq3, hq4⟩ := hq
  obtain rfl : f = .string ⟨q.front.toArray⟩ := hq0
  obtain ⟨ad1, cp1, rfl, hm1, hr1⟩ := hq1
  obtain ⟨ad2, cp2, rfl, hm2, hr2⟩ := hq2
  obtain ⟨ad3, cp3, rfl, hm3, hr3⟩ := hq3
  obtain ⟨ad4, cp4, rfl, hm4, hr4⟩ := hq4
  have hP := h.lt
  generalize hW0 : w.alloc (.cells #[.string ⟨q.front.toArray⟩, .slice ad1 q.next.length cp1, .slice ad2 q.outs.length cp2, .slice ad3 q.fin.length cp3, .slice ad4 q.tail.length cp4] 50) = W0
  have hDb : W0.heap[w.heap.size]? = some (.cells #[.string ⟨q.front.toArray⟩, .slice ad1 q.next.length cp1, .slice ad2 q.outs.length cp2, .slice ad3 q.fin.length cp3, .slice ad4 q.tail.length cp4] 50 (0, 0)) := by rw [← hW0]; exact heap_alloc_new _ _
  have h0 : WOwn P W0 l := by rw [← hW0]; exact h.alloc _
  have hU0 : Upd P w W0 := by rw [← hW0]; exact (Upd.refl P w).alloc _
  have old : ∀ g, F g → g < w.heap.size → W0.heap[g]? = w.heap[g]? := fun g _ hg => by rw [← hW0]; exact alloc_old hg
  have HR1 := hid (hr1.frame (F' := F) (w' := W0) (fun _ h => h) old (R' := IntsIn F W0) (fun _ _ _ h => IntsIn.frame h (fun _ h => h) old))
  have HR2 := hid (hr2.frame (F' := F) (w' := W0) (fun _ h => h) old (R' := StrsIn F W0) (fun _ _ _ h => StrsIn.frame h (fun _ h => h) old))
  have HR3 := hid (hr3.frame (F' := F) (w' := W0) (fun _ h => h) old (R' := BoolR) (fun _ _ _ h => h))
  have HR4 := hid (hr4.frame (F' := F) (w' := W0) (fun _ h => h) old (R' := StrR) (fun _ _ _ h => h))
  have HI := hid hi
  have HDB := hid hDb
  have H0 := hid h0
  have HW0 := hid hW0
  have hfew : q.next.length ≤ 1024 := hi.few
  have hfront : q.front.length ≤ 4096 := hi.front
  clear h hi hDb h0 hW0 hr1 hr2 hr3 hr4 old hok
  unfold maxLen at hm1 hm2 hm3 hm4
  obtain ⟨q0, q1, q2, q3, q4⟩ := scells HDB.out
  go_enter Try.func39, Try.ntmps39
  go_wp2_with fail
  rw [HW0.out]
  refine (textL_any q.front (by omega) H0.out).mono ?_
  rintro e w1 ⟨rfl, hW1, hU1⟩
  obtain ⟨r0, r1, r2, r3, r4⟩ := scells (hU1.row HDB.out (by decide) (by omega))
  clear q0 q1 q2 q3 q4
  go_wp2_with fail
  refine (number_any hW1 (by omega) (by omega)).mono ?_
  rintro e w2 ⟨rfl, hW2, hU2⟩
  have hU := hU1.trans hU2
  obtain ⟨q0, q1, q2, q3, q4⟩ := scells (hU.row HDB.out (by decide) (by omega))
  have HW2 := hid hW2
  have HU := hid hU
  clear r0 r1 r2 r3 r4 hW1 hW2 hU1 hU2 hU
  go_wp2_with fail
  go_loopw [23] (fun v wr => ∃ k : Nat, k ≤ q.next.length ∧ v = .int .i64 k ∧ WOwn P wr (l ++ eText q.front ++ eNum q.next.length ++ eSStates (q.next.take k) (q.outs.take k) (q.fin.take k) (q.tail.take k)) ∧ Upd P W0 wr) (fun v _ => q.next.length - (intOf v).toNat)
  case atStart => exact ⟨0, Nat.zero_le _, rfl, by simpa [eSStates] using HW2.out, HU.out⟩
  case round =>
    obtain ⟨k, hk, rfl, hW, hU⟩ := hrel
    have HWr := hid hW
    have HUw := hid hU
    clear hW hU
    have low : ∀ g, F g → g < W0.heap.size → wr.heap[g]? = W0.heap[g]? := fun g hg _ => (HUw.out.low (by have := hU0.size; omega)).block g (hF g hg)
    by_cases hlt : k < q.next.length
    · have hk2 : k < q.outs.length := by have := HI.out.outs; omega
      have hk3 : k < q.fin.length := by have := HI.out.fin; omega
      have hk4 : k < q.tail.length := by have := HI.out.tail; omega
      obtain ⟨g, off, rfl, hFg, x, hx, hrow⟩ := (HR1.out.frame (w' := wr) (F' := F) (fun _ h => h) low (R' := IntsIn F wr) (fun _ _ _ h => IntsIn.frame h (fun _ h => h) low)).at' hlt
      obtain ⟨g2, off2, rfl, hFg2, x2, hx2, hrow2⟩ := (HR2.out.frame (w' := wr) (F' := F) (fun _ h => h) low (R' := StrsIn F wr) (fun _ _ _ h => StrsIn.frame h (fun _ h => h) low)).at' hk2
      obtain ⟨g3, off3, rfl, hFg3, x3, hx3, rfl⟩ := (HR3.out.frame (w' := wr) (F' := F) (fun _ h => h) low (R' := BoolR) (fun _ _ _ h => h)).at' hk3
      obtain ⟨g4, off4, rfl, hFg4, x4, hx4, rfl⟩ := (HR4.out.frame (w' := wr) (F' := F) (fun _ h => h) low (R' := StrR) (fun _ _ _ h => h)).at' hk4
      obtain ⟨adr, cpr, rfl, hmr, hrr⟩ := hrow
      obtain ⟨ado, cpo, rfl, hmo, hro⟩ := hrow2
      unfold maxLen at hmr hmo
      obtain ⟨ht1, ht2, ht3⟩ := sStatesOk_at _ k _ _ _ _ hlt hk2 hk3 hk4 HI.out.rows
      simp only [sRowOk, Bool.and_eq_true, decide_eq_true_eq] at ht3
      have HT2 := hid ht2
      have HT3 := hid ht3
      have HRR := hid hrr
      have HRO := hid hro
      have hgf : (k : Int) < (q.fin.length : Int) := by omega
      have hgt : (k : Int) < (q.tail.length : Int) := by omega
      have hgo : (k : Int) < (q.outs.length : Int) := by omega
      obtain ⟨r0, r1, r2, r3, r4⟩ := scells (HUw.out.row HDB.out (by decide) (by omega))
      clear low ht2 ht3 hrr hro q0 q1 q2 q3 q4
      go_upto_if 39 with (go_at_call 38; refine (bitW_any _ HWr.out).mono ?_; rintro e w4 ⟨rfl, hW4, hU4⟩; have HW4 := hid hW4; have HU4 := hid (HUw.out.trans hU4); have low4 := hid ((hU4.low (WOwn.lt HWr.out))); have z3 := (low4.out.cell (p := ⟨g3, off3 + k, none⟩) (hF g3 hFg3)).trans hx3; have z4 := (low4.out.cell (p := ⟨g4, off4 + k, none⟩) (hF g4 hFg4)).trans hx4; obtain ⟨y0, y1, y2, y3, y4⟩ := scells (HU4.out.row HDB.out (by decide) (by omega)); clear hW4 hU4 r0 r1 r2 r3 r4)
      have htl : q.tail[k].length ≤ 65535 := by omega
      go_cut [] (fun wx => WOwn P wx (l ++ eText q.front ++ eNum q.next.length ++ eSStates (q.next.take k) (q.outs.take k) (q.fin.take k) (q.tail.take k) ++ eBit q.fin[k] ++ eTail q.fin[k] q.tail[k]) ∧ Upd P W0 wx)
      case first =>
        go_wp2_with (go_at_call 23; refine (textL_any q.tail[k] htl HW4.out).mono ?_; rintro e w5 ⟨rfl, hW5, hU5⟩)
        · go_meet
          have hb : q.fin[k] = true := by assumption
          exact ⟨by rw [hb] at hW5 ⊢; exact hW5, HU4.out.trans hU5⟩
        · go_meet
          have hb : q.fin[k] = false := by assumption
          exact ⟨by have := HW4.out; rw [hb] at this ⊢; simpa [eTail] using this, HU4.out⟩
      case rest =>
        obtain ⟨hW5, hU5⟩ := hcut
        have HW5 := hid hW5
        have HU5 := hid hU5
        clear hW5 hU5 HW4 HU4 low4 z3 z4 y0 y1 y2 y3 y4
        go_wp2_with fail
        have lowc : ∀ g, F g → g < wr.heap.size → wc.heap[g]? = wr.heap[g]? := fun g hg _ => ((HU5.out.low (by have := hU0.size; omega)).block g (hF g hg)).trans ((HUw.out.low (by have := hU0.size; omega)).block g (hF g hg)).symm
        have HRC := hid (HRR.out.frame (w' := wc) (F' := F) (fun _ h => h) lowc (R' := IntR) (fun _ _ _ h => h))
        clear lowc
        go_loop [6, 49] (fun n i => ∃ j : Nat, j ≤ q.next[k].length ∧ i = .int .i64 j ∧ n = .int .i64 (arcsIn (q.next[k].take j))) (fun _ i => q.next[k].length - (intOf i).toNat)
        case atStart => exact ⟨0, Nat.zero_le _, rfl, rfl⟩
        case round =>
          obtain ⟨j, hj, rfl, rfl⟩ := hrel
          by_cases hlj : j < q.next[k].length
          · obtain ⟨gr, offr, rfl, hFr, x, hxr, rfl⟩ := HRC.out.at' hlj
            have hsn := hid (arcsIn_snoc _ _ hlj)
            have hle := arcsIn_le (q.next[k].take j)
            rw [List.length_take] at hle
            by_cases hz : 0 ≤ q.next[k][j]
            · go_wp2
              go_round
              case rel => exact ⟨j + 1, by omega, by go_num, by rw [hsn.out, if_pos hz]; go_num⟩
              case measure => simp [intOf]; omega
            · go_wp2
              go_round
              case rel => exact ⟨j + 1, by omega, by go_num, by rw [hsn.out, if_neg (by omega)]; rfl⟩
              case measure => simp [intOf]; omega
          · obtain rfl : j = q.next[k].length := by omega
            rw [List.take_length]
            have hle := arcsIn_le q.next[k]
            have hl256 : q.next[k].length ≤ 256 := by rw [HT3.out.1.1]; omega
            go_wp2_with fail
            refine (number_any HW5.out (by omega) (by omega)).mono ?_
            rintro e w6 ⟨rfl, hW6, hU6⟩
            have HW6 := hid hW6
            have HU6 := hid (HU5.out.trans hU6)
            have hl6 : q.next[k].length ≤ 9223372036854775807 := hmr
            clear hW6 hU6 hl256 hle
            go_wp2_with fail
            obtain ⟨wo, rfl⟩ : ∃ wo : World, wo = wr := ⟨_, rfl⟩
            go_loopw [63] (fun v wr => ∃ j : Nat, j ≤ q.next[k].length ∧ v = .int .i64 j ∧ WOwn P wr (l ++ eText q.front ++ eNum q.next.length ++ eSStates (q.next.take k) (q.outs.take k) (q.fin.take k) (q.tail.take k) ++ eBit q.fin[k] ++ eTail q.fin[k] q.tail[k] ++ eNum (arcsIn q.next[k]) ++ eArcs 0 (q.next[k].take j) (q.outs[k].take j)) ∧ Upd P W0 wr) (fun v _ => q.next[k].length - (intOf v).toNat)
            case atStart => exact ⟨0, Nat.zero_le _, rfl, by simpa [eArcs] using HW6.out, HU6.out⟩
            case round =>
              obtain ⟨j, hj, rfl, hW, hU⟩ := hrel
              have HWq := hid hW
              have HUq := hid hU
              clear hW hU
              have lowi : ∀ w' : World, Upd P W0 w' → ∀ g, F g → g < wo.heap.size → w'.heap[g]? = wo.heap[g]? := fun w' hu g hg _ => ((hu.low (by have := hU0.size; omega)).block g (hF g hg)).trans ((HUw.out.low (by have := hU0.size; omega)).block g (hF g hg)).symm
              by_cases hlj : j < q.next[k].length
              · have hlo : j < q.outs[k].length := by have := HT3.out.1.1; have := HT3.out.1.2; omega
                have hok := arcsOk_at _ j _ _ hlj hlo HT3.out.2
                have h256 : j < 256 := by have := HT3.out.1.1; omega
                have hsn := hid (eArcs_snoc j 0 _ _ hlj hlo)
                obtain ⟨gr, offr, rfl, hFr, x, hxr, rfl⟩ := (HRR.out.frame (w' := wr) (F' := F) (fun _ h => h) (lowi wr HUq.out) (R' := IntR) (fun _ _ _ h => h)).at' hlj
                obtain ⟨go, offo, rfl, hFo, x, hxo, rfl⟩ := HRO.out.at' hlo
                have HXO := hid hxo
                have HX2 := hid hx2
                have LOW := hid lowi
                have hx2' : ∀ w' : World, Upd P W0 w' → w'.cell? ⟨g2, off2 + k, none⟩ = some (.slice (some ⟨go, offo, none⟩) q.outs[k].length cpo) := fun w' hu => (cell_heap (lowi w' hu g2 hFg2 (World.block_lt_of_cell? wo _ hx2))).trans hx2
                have hxo' : ∀ w' : World, Upd P W0 w' → w'.cell? ⟨go, offo + j, none⟩ = some (.string ⟨q.outs[k][j].toArray⟩) := fun w' hu => (cell_heap (lowi w' hu go hFo (World.block_lt_of_cell? wo _ hxo))).trans hxo
                have HX2' := hid hx2'
                have HXO' := hid hxo'
                have hjo : (j : Int) < (q.outs[k].length : Int) := by omega
                clear lowi hxo hx2 hx2' hxo'
                by_cases hz : 0 ≤ q.next[k][j]
                · have hb1 := hid (show (j : Int) = ((UInt8.ofNat j).toNat : Int) by simp; omega)
                  have hzb : q.next[k][j] ≤ 9223372036854775807 := by omega
                  have hob : q.outs[k][j].length ≤ 65535 := by omega
                  go_wp2_with (first | (go_at_call 37; refine (byte_at _ _ hb1.out HWq.out).mono ?_; rintro e w7 ⟨rfl, hW7, hU7⟩; have HW7 := hid hW7; have HU7 := hid (HUq.out.trans hU7); clear hW7 hU7) | (go_at_call 21; refine (number_any HW7.out hz hzb).mono ?_; rintro e w8 ⟨rfl, hW8, hU8⟩; have HW8 := hid hW8; have HU8 := hid (HU7.out.trans hU8); obtain ⟨y0, y1, y2, y3, y4⟩ := scells (HU8.out.row HDB.out (by decide) (by omega)); have y5 := HX2'.out w8 HU8.out; have y6 := HXO'.out w8 HU8.out; clear hW8 hU8) | (go_at_call 23; refine (textL_any _ hob HW8.out).mono ?_; rintro e w9 ⟨rfl, hW9, hU9⟩))
                  go_roundw
                  case rel => exact ⟨j + 1, by omega, by go_num, by rw [hsn.out, if_pos hz]; unfold eArc; simpa using hW9, HU8.out.trans hU9⟩
                  case measure => simp [intOf]; omega
                · go_wp2_with fail
                  go_roundw
                  case rel => exact ⟨j + 1, by omega, by go_num, by rw [hsn.out, if_neg (by omega), List.append_nil]; exact HWq.out, HUq.out⟩
                  case measure => simp [intOf]; omega
              · obtain rfl : j = q.next[k].length := by omega
                have HWz := HWq.out
                rw [show q.outs[k].take q.next[k].length = q.outs[k] by rw [HT3.out.1.1, ← HT3.out.1.2, List.take_length], List.take_length] at HWz
                have HWy := hid HWz
                clear lowi HWz HWq
                go_wp2_with fail
                go_roundw
                case rel => exact ⟨k + 1, by omega, by go_num, by rw [eSStates_snoc k _ _ _ _ hlt hk2 hk3 hk4]; simpa using HWy.out, HUq.out⟩
                case measure => simp [intOf]; omega
    · obtain rfl : k = q.next.length := by omega
      have hW8 := HWr.out
      rw [show q.outs.take q.next.length = q.outs by rw [← HI.out.outs, List.take_length], show q.fin.take q.next.length = q.fin by rw [← HI.out.fin, List.take_length], show q.tail.take q.next.length = q.tail by rw [← HI.out.tail, List.take_length], List.take_length] at hW8
      have HW8 := hid hW8
      clear low hW8
      go_wp2_with fail
      go_end0
      exact ⟨rfl, by unfold eSq; simpa using HW8.out, hU0.trans HUw.out⟩
end Go.Proofs.Ytdokeelodcckoaa.Im
